/- 'Am': the operations, one by one (sixth part): append.
   By the session's AI agent. -/
import Derived.Test.YthhceeaconflnaaDoorAm11
namespace Go.Am
open Go.RowKit (Below)
set_option linter.unusedVariables false
set_option linter.unusedSimpArgs false
set_option linter.unusedSectionVars false

section
variable {N0 : Nat} {P : Program} {w0 : World} {g : G} {e : Env} {a : Act} {h : Hp} {w : World}
variable {o : Oper} {md : Nat} {orc : Orc} {base : Nat} {draw : Bool} {aop : AOp} {v : PV} {e' : Env} {h' : Hp} {gl : Globs} (hgl : GlobOk gl N0 w0)
include hgl

omit hgl in
theorem elem_of_scalar {x : PV} (hx : scalar x = true) : x.cells = [x] := by cases x <;> simp_all [PV.cells, scalar]

omit hgl in
/-- The cells of a source of append. -/
theorem src_rv (k : Ok (N0 := N0) w0 g e a.tmps h w) {sz : Nat} (hpos : sz ≠ 0) {u : PV} {A : Value} (hr : RV N0 g w u A) {xs : List PV} (hx : elems h u = some xs) (hs : xs.all (fun x => x.cells.length == sz) = true) :
    (Builtin.lenOf A).run P w = .ok xs.length w ∧ ∃ news : Array Value, (∀ w1 : World, w1 = w ∨ w1 = w.drew → (Builtin.firstCells sz xs.length A).run P w1 = .ok news w1) ∧ Holds N0 g w sz xs news := by
  have hsz : ∀ (i : Nat) (x : PV), xs[i]? = some x → x.cells.length = sz := by
    intro i x hi
    have := List.all_eq_true.1 hs x (List.mem_of_getElem? hi)
    simpa using this
  cases hr <;> simp only [elems] at hx <;> (try cases hx)
  case nils =>
    refine ⟨by simp [Builtin.lenOf], #[], fun w1 _ => by simp [Builtin.firstCells], by simp, by simp, by simp⟩
  case sl ow sz' c o' cap uu q7 q1 q2 q3 q4 q5 q6 q8 q9 =>
    refine ⟨by simp [Builtin.lenOf], ((List.range (xs.length * sz)).map fun q => uu (q / sz) (q % sz)).toArray, ?_, by simp, hsz, ?_⟩
    · intro w1 hw1
      simp only [Builtin.firstCells]
      refine run_loadCells (P := P) w1 ⟨c, o', q7⟩ _ (fun q => uu (q / sz) (q % sz)) (fun q hq => ?_)
      obtain rfl : q7 = none := q8 (by rintro rfl; simp at hq)
      have hd : q / sz < xs.length := Nat.div_lt_of_lt_mul (by rwa [Nat.mul_comm] at hq)
      have hm : q % sz < sz := Nat.mod_lt _ (by omega)
      obtain ⟨x0, hx0⟩ : ∃ x, xs[q / sz]? = some x := ⟨_, List.getElem?_eq_getElem hd⟩
      have hszz : sz' = sz := by rw [← q3 _ _ hx0, hsz _ _ hx0]
      subst hszz
      have := q4 (q / sz') (q % sz') hd hm
      rw [show q / sz' * sz' + q % sz' = q by rw [Nat.mul_comm]; exact Nat.div_add_mod q sz'] at this
      rw [add_addr]
      rcases hw1 with rfl | rfl
      · exact this
      · exact this
    · intro i j x y hi hj
      have hil : i < xs.length := (List.getElem?_eq_some_iff.1 hi).1
      have hjl : j < sz := by rw [← hsz i x hi]; exact (List.getElem?_eq_some_iff.1 hj).1
      have hlt := mul_lt_of hil hjl
      have e1 : (i * sz + j) / sz = i := by rw [Nat.mul_comm, Nat.mul_add_div (by omega), Nat.div_eq_of_lt hjl, Nat.add_zero]
      have e2 : (i * sz + j) % sz = j := by rw [Nat.mul_comm, Nat.mul_add_mod, Nat.mod_eq_of_lt hjl]
      have := q5 i j x y hi hj
      simpa [Array.getD_eq_getD_getElem?, hlt, e1, e2] using this
  case bsl fl b off len sz' cap hb hl hfl =>
    split at hx
    · rename_i h1
      subst h1
      simp only [Option.bnd_eq_some_iff] at hx
      obtain ⟨cs, hcs, hx⟩ := hx
      split at hx
      · rename_i hcond
        obtain ⟨hle, hsc⟩ := hcond
        simp only [Option.some.injEq] at hx
        subst hx
        obtain ⟨uu, u1, u2⟩ := box_cell k hcs
        have hlen : ((cs.drop off).take len).length = len := by simp; omega
        refine ⟨by rw [hlen]; simp [Builtin.lenOf], ?_⟩
        rcases Nat.eq_zero_or_pos len with h0 | hp
        · subst h0
          exact ⟨#[], fun w1 _ => by simp [Builtin.firstCells, loadCells, loadCellsFrom], by simp, by simp, by simp⟩
        · have h1 : sz = 1 := by
            have hoff : off < cs.length := by omega
            have hget : ((cs.drop off).take len)[0]? = some cs[off] := by
              rw [List.getElem?_take, if_pos hp, List.getElem?_drop, Nat.add_zero, List.getElem?_eq_getElem hoff]
            have := hsz 0 _ hget
            rw [elem_of_scalar] at this
            · simpa using this.symm
            · have hmem : cs[off] ∈ (cs.drop off).take len := List.mem_of_getElem? (i := 0) (by rw [List.getElem?_take, if_pos hp, List.getElem?_drop, Nat.add_zero, List.getElem?_eq_getElem hoff])
              exact List.all_eq_true.1 hsc _ hmem
          subst h1
          refine ⟨((List.range len).map fun q => uu (off + q)).toArray, ?_, by simp [hlen], hsz, ?_⟩
          · intro w1 hw1
            simp only [Builtin.firstCells, hlen, Nat.mul_one]
            refine run_loadCells (P := P) w1 ⟨g.ι b, off, none⟩ _ (fun q => uu (off + q)) (fun q hq => ?_)
            rw [add_addr]
            have := u1 (off + q) (by omega)
            rcases hw1 with rfl | rfl
            · exact this
            · exact this
          · intro i j x y hi hj
            have hil : i < len := by rw [← hlen]; exact (List.getElem?_eq_some_iff.1 hi).1
            have hj0 : j = 0 := by have := (List.getElem?_eq_some_iff.1 hj).1; have := hsz i x hi; omega
            subst hj0
            have hc0 := hi
            have hmem : x ∈ (cs.drop off).take len := List.mem_of_getElem? hc0
            have hsc0 := List.all_eq_true.1 hsc _ hmem
            rw [List.getElem?_take, if_pos hil, List.getElem?_drop] at hc0
            rw [elem_of_scalar hsc0] at hj
            simp only [List.getElem?_cons_zero, Option.some.injEq] at hj
            subst hj
            have := u2 _ _ hc0
            simpa [Array.getD_eq_getD_getElem?, hil] using this
      · cases hx
    · cases hx
  case str l s hl =>
    have hls : l.length = s.size := by rw [← hl]; simp
    refine ⟨by simp [Builtin.lenOf, hls], s.data.map fun b => .int .u8 b.toNat, ?_, ?_, hsz, ?_⟩
    · intro w1 _
      simp only [Builtin.firstCells, List.length_map, hls]
      have : (s.extract 0 s.size) = s := by
        apply ByteArray.ext
        simp
      rw [this]
      simp
    · rcases Nat.eq_zero_or_pos l.length with h0 | hp
      · simp [← hls, h0]
      · have := hsz 0 (.int .u8 (l[0]).toNat) (by simp [hp])
        have h1 : sz = 1 := by simpa [PV.cells] using this.symm
        subst h1
        simp [hls]
    · intro i j x y hi hj
      have hil : i < l.length := by have := (List.getElem?_eq_some_iff.1 hi).1; simpa using this
      have h1 := hsz i x hi
      simp only [List.getElem?_map, List.getElem?_eq_getElem hil, Option.map_some, Option.some.injEq] at hi
      subst hi
      simp only [PV.cells, List.length_singleton] at h1
      subst h1
      cases j with
      | zero =>
        simp [PV.cells] at hj
        subst hj
        have hget : s.data[i]? = some l[i] := by
          rw [← Array.getElem?_toList, hl, List.getElem?_eq_getElem hil]
        simp only [Nat.mul_one, Nat.add_zero, Array.getD_eq_getD_getElem?, Array.getElem?_map, hget, Option.map_some, Option.getD_some]
        exact .int _ _
      | succ j => simp [PV.cells] at hj

omit hgl in
theorem run_append_any {t u ty el : TypeId} {i : TypeInfo} {z : Value} (ht : P.underlying t = some (.slice el)) (hu : P.underlying u = some .string ∨ ∃ el', P.underlying u = some (.slice el')) (hi : P.info? el = some i) (hz : i.zero = some z)
    (b : Option Addr) (sLen : Nat) (x : Value) (n : Nat) (hlen : (Builtin.lenOf x).run P w = .ok n w) (olds news : Array Value)
    (hold : ∀ w1 : World, w1 = w ∨ w1 = w.drew → (Builtin.firstCells i.size sLen (.slice b sLen sLen)).run P w1 = .ok olds w1)
    (hnew : ∀ w1 : World, w1 = w ∨ w1 = w.drew → (Builtin.firstCells i.size n x).run P w1 = .ok news w1)
    (hn : 0 < n) (h63 : ((sLen + n : Nat) : Int) ≤ 9223372036854775807) (hfit : Builtin.nextslicecap (sLen + n) sLen * i.bytes ≤ 281474976710656) :
    (Builtin.append_ #[t, u] ty #[.slice b sLen sLen, x]).run P w =
      .ok (.slice (some ⟨w.heap.size, 0, none⟩) (sLen + n) (grownCap w (sLen + n) sLen el)) (w.drew.alloc (.cells (olds ++ news ++ Builtin.zeroCells z.cells (grownCap w (sLen + n) sLen el - (sLen + n))) el)) := by
  have hn' : ¬ (sLen + n ≤ sLen) := by omega
  have hn'' : n ≠ 0 := by omega
  have h63' : ¬ (9223372036854775807 < ((sLen : Int) + (n : Int))) := by omega
  have h48' : ¬ (281474976710656 < Builtin.nextslicecap (sLen + n) sLen * i.bytes) := by omega
  have h1 := hold w.drew (.inr rfl)
  have h2 := hnew w.drew (.inr rfl)
  rcases hu with hu | ⟨el', hu⟩ <;> simp [Builtin.append_, run_underlying ht, run_underlying hu, Go.sizeOf, typeInfo, zeroValue, hi, hz, hlen, hn', hn'', h63', h48', Question.forced, h1, h2, newRow, grownCap]

omit hgl in
theorem run_append_none {t u ty el : TypeId} {i : TypeInfo} (ht : P.underlying t = some (.slice el)) (hu : P.underlying u = some .string ∨ ∃ el', P.underlying u = some (.slice el')) (hi : P.info? el = some i)
    (b : Option Addr) (sLen : Nat) (x : Value) (hlen : (Builtin.lenOf x).run P w = .ok 0 w) (news : Array Value) (hnews : news.size = 0)
    (hnew : (Builtin.firstCells i.size 0 x).run P w = .ok news w) : (Builtin.append_ #[t, u] ty #[.slice b sLen sLen, x]).run P w = .ok (.slice b sLen sLen) w := by
  have h0 : news = #[] := Array.eq_empty_of_size_eq_zero hnews
  subst h0
  rcases hu with hu | ⟨el', hu⟩ <;> (cases b <;> simp [Builtin.append_, run_underlying ht, run_underlying hu, Go.sizeOf, typeInfo, hi, hlen, hnew, storeCells])

omit hgl in
/-- Elements behind others, in one array: the old ones and the new ones without their tokens. -/
theorem joined_rv {g' : G} {w1 : World} {sz : Nat} {es xs : List PV} {olds news us : Array Value} (hx1 : Ext N0 g w g' w1) (hho : Holds N0 g w sz es olds) (hhn : Holds N0 g w sz xs news)
    (hus : ∀ q, q < (es.length + xs.length) * sz → us.getD q Go.undef = (olds ++ news).getD q Go.undef) :
    (∀ (i : Nat) (x : PV), (es ++ strips xs)[i]? = some x → x.cells.length = sz) ∧
    ∀ (i j : Nat) (x y : PV), (es ++ strips xs)[i]? = some x → x.cells[j]? = some y → RV N0 g' w1 y (us.getD (i * sz + j) Go.undef) := by
  have hget : ∀ (i : Nat) (x0 : PV), (es ++ strips xs)[i]? = some x0 → (i < es.length ∧ es[i]? = some x0) ∨ (es.length ≤ i ∧ ∃ x1, xs[i - es.length]? = some x1 ∧ x0 = strip x1) := by
    intro i x0 hx
    by_cases hlt : i < es.length
    · rw [List.getElem?_append_left hlt] at hx; exact .inl ⟨hlt, hx⟩
    · rw [List.getElem?_append_right (by omega), strips_get, Option.map_eq_some_iff] at hx
      obtain ⟨x1, hx1, rfl⟩ := hx
      exact .inr ⟨by omega, x1, hx1, rfl⟩
  have hsz : ∀ (i : Nat) (x : PV), (es ++ strips xs)[i]? = some x → x.cells.length = sz := by
    intro i x0 hx
    rcases hget i x0 hx with ⟨_, hx'⟩ | ⟨_, x1, hx', rfl⟩
    · exact hho.2.1 i x0 hx'
    · rw [strip_cells]; exact hhn.2.1 _ x1 hx'
  refine ⟨hsz, fun i j x0 y hx hy => ?_⟩
  have hj : j < sz := by rw [← hsz i x0 hx]; exact (List.getElem?_eq_some_iff.1 hy).1
  have e1 := hho.1
  have e2 := hhn.1
  rcases hget i x0 hx with ⟨hlt, hx'⟩ | ⟨hge, x1, hx', rfl⟩
  · have h1 := mul_lt_of hlt hj
    have h2 : es.length * sz ≤ (es.length + xs.length) * sz := Nat.mul_le_mul_right _ (by omega)
    rw [hus _ (by omega), Array.getD_eq_getD_getElem?, Array.getElem?_append_left (by omega), ← Array.getD_eq_getD_getElem?]
    exact (hho.2.2 i j x0 y hx' hy).mono hx1
  · have hlt : i - es.length < xs.length := (List.getElem?_eq_some_iff.1 hx').1
    have h1 : (i - es.length) * sz + j < xs.length * sz := mul_lt_of hlt hj
    have hge' : es.length * sz ≤ i * sz := Nat.mul_le_mul_right _ hge
    have hsub : i * sz + j - olds.size = (i - es.length) * sz + j := by rw [e1, Nat.sub_mul]; omega
    rw [hus _ (by rw [Nat.add_mul]; rw [Nat.sub_mul] at h1; omega), Array.getD_eq_getD_getElem?, Array.getElem?_append_right (by omega), hsub, ← Array.getD_eq_getD_getElem?]
    -- a cell without its token
    have hy' : ∃ y1, x1.cells[j]? = some y1 ∧ y = strip y1 := by
      have one : ∀ v : PV, (strip v).cells = [strip v] → v.cells = [v] → (strip v).cells[j]? = some y → ∃ y1, v.cells[j]? = some y1 ∧ y = strip y1 := by
        intro v a1 a2 a3
        rw [a1] at a3
        rw [a2]
        cases j with
        | zero => simp at a3; exact ⟨v, rfl, a3.symm⟩
        | succ j => simp at a3
      cases x1 with
      | agg cs =>
        simp only [strip, PV.cells, strips_get, Option.map_eq_some_iff] at hy
        obtain ⟨y1, q1, q2⟩ := hy
        exact ⟨y1, q1, q2.symm⟩
      | _ => exact one _ rfl rfl hy
    obtain ⟨y1, hy', rfl⟩ := hy'
    exact rv_strip ((hhn.2.2 _ j x1 y1 hx' hy').mono hx1)

omit hgl in
theorem append_none {t u ty el : TypeId} {i : TypeInfo} (ht : P.underlying t = some (.slice el)) (hu : P.underlying u = some .string ∨ ∃ el', P.underlying u = some (.slice el')) (hi : P.info? el = some i)
    (b : Option Addr) (sLen cap : Nat) (hc : sLen ≤ cap) (x : Value) (hlen : (Builtin.lenOf x).run P w = .ok 0 w) (news : Array Value) (hnews : news.size = 0)
    (hnew : (Builtin.firstCells i.size 0 x).run P w = .ok news w) : (Builtin.append_ #[t, u] ty #[.slice b sLen cap, x]).run P w = .ok (.slice b sLen cap) w := by
  have h0 : news = #[] := Array.eq_empty_of_size_eq_zero hnews
  subst h0
  rcases hu with hu | ⟨el', hu⟩ <;> (cases b <;> simp [Builtin.append_, run_underlying ht, run_underlying hu, Go.sizeOf, typeInfo, hi, hlen, hnew, storeCells, hc])

omit hgl in
/-- Behind the end, where there is room. -/
theorem append_room {t u ty el : TypeId} {i : TypeInfo} (ht : P.underlying t = some (.slice el)) (hu : P.underlying u = some .string ∨ ∃ el', P.underlying u = some (.slice el')) (hi : P.info? el = some i)
    (A : Addr) (sLen cap : Nat) (x : Value) (n : Nat) (hc : sLen + n ≤ cap) (hlen : (Builtin.lenOf x).run P w = .ok n w) (news : Array Value)
    (hnew : (Builtin.firstCells i.size n x).run P w = .ok news w) {w1 : World} (hst : (storeCells (A.add (sLen * i.size)) news.toList).run P w = .ok () w1) :
    (Builtin.append_ #[t, u] ty #[.slice (some A) sLen cap, x]).run P w = .ok (.slice (some A) (sLen + n) cap) w1 := by
  rcases hu with hu | ⟨el', hu⟩ <;> simp [Builtin.append_, run_underlying ht, run_underlying hu, Go.sizeOf, typeInfo, hi, hlen, hnew, hst, hc]

omit hgl in
/-- Where there is none: a new array. -/
theorem append_grow {t u ty el : TypeId} {i : TypeInfo} {z : Value} (ht : P.underlying t = some (.slice el)) (hu : P.underlying u = some .string ∨ ∃ el', P.underlying u = some (.slice el')) (hi : P.info? el = some i) (hz : i.zero = some z)
    (b : Option Addr) (sLen cap : Nat) (x : Value) (n : Nat) (hc : cap < sLen + n) (hlen : (Builtin.lenOf x).run P w = .ok n w) (olds news : Array Value)
    (hold : ∀ w1 : World, w1 = w ∨ w1 = w.drew → (Builtin.firstCells i.size sLen (.slice b sLen cap)).run P w1 = .ok olds w1)
    (hnew : ∀ w1 : World, w1 = w ∨ w1 = w.drew → (Builtin.firstCells i.size n x).run P w1 = .ok news w1)
    (h63 : ((sLen + n : Nat) : Int) ≤ 9223372036854775807) (hfit : Builtin.nextslicecap (sLen + n) cap * i.bytes ≤ 281474976710656) :
    (Builtin.append_ #[t, u] ty #[.slice b sLen cap, x]).run P w =
      .ok (.slice (some ⟨w.heap.size, 0, none⟩) (sLen + n) (grownCap w (sLen + n) cap el)) (w.drew.alloc (.cells (olds ++ news ++ Builtin.zeroCells z.cells (grownCap w (sLen + n) cap el - (sLen + n))) el)) := by
  have hn' : ¬ (sLen + n ≤ cap) := by omega
  have h63' : ¬ (9223372036854775807 < ((sLen : Int) + (n : Int))) := by omega
  have h48' : ¬ (281474976710656 < Builtin.nextslicecap (sLen + n) cap * i.bytes) := by omega
  have h1 := hold w.drew (.inr rfl)
  have h2 := hnew w.drew (.inr rfl)
  rcases hu with hu | ⟨el', hu⟩ <;> simp [Builtin.append_, run_underlying ht, run_underlying hu, Go.sizeOf, typeInfo, zeroValue, hi, hz, hlen, hn', h63', h48', Question.forced, h1, h2, newRow, grownCap]

omit hgl in
/-- Cells are written one behind the other. -/
theorem store_raw {c off : Nat} {T : TypeId} {lo hi : Nat} : ∀ (us : List Value) (i : Nat) (w : World) (arr : Array Value), w.heap[c]? = some (.cells arr T (lo, hi)) → off + i + us.length ≤ arr.size → (lo < hi → hi ≤ off) →
    (∀ u ∈ us, (∀ l, u ≠ .agg l) ∧ (∀ l, u ≠ .tuple l)) → N0 ≤ c →
    ∃ w1 arr', (storeCells ⟨c, off, none⟩ us i).run P w = .ok () w1 ∧ w1.heap[c]? = some (.cells arr' T (lo, hi)) ∧ arr'.size = arr.size ∧ w1.heap.size = w.heap.size ∧ (∀ d, d ≠ c → w1.heap[d]? = w.heap[d]?) ∧ Below N0 w w1 ∧
      ∀ q, arr'[q]? = if off + i ≤ q ∧ q < off + i + us.length then us[q - (off + i)]? else arr[q]?
  | [], i, w, arr, hw, hle, hfr, hu, hc => ⟨w, arr, by simp [storeCells], hw, rfl, rfl, fun _ _ => rfl, Below.refl _ _, fun q => by rw [if_neg (by simp)]⟩
  | u :: us, i, w, arr, hw, hle, hfr, hu, hc => by
    simp only [List.length_cons] at hle
    have hoff : off + i < arr.size := by omega
    have hcell : w.cell? ⟨c, off + i, none⟩ = some arr[off + i] := by simp [World.cell?, hw, hoff]
    have hfz : w.frozen? ⟨c, off + i, none⟩ = false := by
      simp only [World.frozen?, hw]
      rw [Bool.and_eq_false_iff]
      by_cases hlh : lo < hi
      · right; have := hfr hlh; simp; omega
      · by_cases h1 : lo ≤ off + i
        · right; simp; omega
        · left; simp; omega
    have hset : (w.setCell ⟨c, off + i, none⟩ u).heap[c]? = some (.cells (arr.setIfInBounds (off + i) u) T (lo, hi)) := by
      simp only [World.setCell, Array.getElem?_modify, if_true, hw, Option.map_some, Option.isSome_none, Bool.false_eq_true, if_false]
    obtain ⟨w1, arr', h1, h2, h3, h4, h5, h6, h7⟩ := store_raw us (i + 1) (w.setCell ⟨c, off + i, none⟩ u) (arr.setIfInBounds (off + i) u) hset (by simp; omega) hfr (fun v hv => hu v (by simp [hv])) hc
    refine ⟨w1, arr', ?_, h2, by rw [h3]; simp, by rw [h4]; simp, fun d hd => by rw [h5 d hd]; exact Below.heap_setCell _ _ _ _ hd, ((Below.refl N0 w).setCell hc _).trans h6, fun q => ?_⟩
    · have hna := hu u (by simp)
      have hst : (store (⟨c, off + i, none⟩ : Addr) u).run P w = .ok () (w.setCell ⟨c, off + i, none⟩ u) := by
        cases u with
        | agg l => exact (hna.1 l rfl).elim
        | tuple l => exact (hna.2 l rfl).elim
        | _ => simp [store, Sem.run, hcell, hfz]
      simp only [storeCells, add_addr, Sem.run_bind, hst, Result.andThen]
      exact h1
    · rw [h7, List.length_cons]
      by_cases hq : q = off + i
      · subst hq
        rw [if_neg (by omega), if_pos (by omega)]
        simp [hoff]
      · by_cases hc2 : off + i ≤ q ∧ q < off + i + (us.length + 1)
        · rw [if_pos (by omega), if_pos hc2, show q - (off + i) = (q - (off + (i + 1))) + 1 by omega, List.getElem?_cons_succ]
        · rw [if_neg (by omega), if_neg hc2, Array.getElem?_setIfInBounds_ne (by omega)]

omit hgl in
/-- The cells of a slice by value, as an array. -/
theorem holds_of {sz : Nat} {es : List PV} {c o : Nat} {sp : Option Nat} {uu : Nat → Nat → Value} (hpos : sz ≠ 0) (q3 : ∀ (i : Nat) (e : PV), es[i]? = some e → e.cells.length = sz)
    (q4 : ∀ i j, i < es.length → j < sz → w.cell? ⟨c, o + (i * sz + j), none⟩ = some (uu i j)) (q5 : ∀ (i j : Nat) (e x : PV), es[i]? = some e → e.cells[j]? = some x → RV N0 g w x (uu i j)) (q8 : es ≠ [] → sp = none) (len cap : Nat) :
    ∃ olds : Array Value, (∀ w1 : World, w1 = w ∨ w1 = w.drew → (Builtin.firstCells sz es.length (.slice (some ⟨c, o, sp⟩) len cap)).run P w1 = .ok olds w1) ∧ Holds N0 g w sz es olds ∧ ∀ i j, i < es.length → j < sz → olds.getD (i * sz + j) Go.undef = uu i j := by
  have val : ∀ i j, i < es.length → j < sz → (((List.range (es.length * sz)).map fun q => uu (q / sz) (q % sz)).toArray).getD (i * sz + j) Go.undef = uu i j := by
    intro i j hil hjl
    have hlt := mul_lt_of hil hjl
    have e1 : (i * sz + j) / sz = i := by rw [Nat.mul_comm, Nat.mul_add_div (by omega), Nat.div_eq_of_lt hjl, Nat.add_zero]
    have e2 : (i * sz + j) % sz = j := by rw [Nat.mul_comm, Nat.mul_add_mod, Nat.mod_eq_of_lt hjl]
    simp [Array.getD_eq_getD_getElem?, hlt, e1, e2]
  refine ⟨((List.range (es.length * sz)).map fun q => uu (q / sz) (q % sz)).toArray, ?_, ⟨by simp, q3, ?_⟩, val⟩
  · intro w1 hw1
    simp only [Builtin.firstCells]
    refine run_loadCells (P := P) w1 ⟨c, o, sp⟩ _ (fun q => uu (q / sz) (q % sz)) (fun q hq => ?_)
    obtain rfl : sp = none := q8 (by rintro rfl; simp at hq)
    have hd' : q / sz < es.length := Nat.div_lt_of_lt_mul (by rwa [Nat.mul_comm] at hq)
    have hm : q % sz < sz := Nat.mod_lt _ (by omega)
    have := q4 (q / sz) (q % sz) hd' hm
    rw [show q / sz * sz + q % sz = q by rw [Nat.mul_comm]; exact Nat.div_add_mod q sz] at this
    rw [add_addr]
    rcases hw1 with rfl | rfl
    · exact this
    · exact this
  · intro i j x0 y hi' hj
    have hil : i < es.length := (List.getElem?_eq_some_iff.1 hi').1
    have hjl : j < sz := by rw [← q3 i x0 hi']; exact (List.getElem?_eq_some_iff.1 hj).1
    rw [val i j hil hjl]
    exact q5 i j x0 y hi' hj

omit hgl in
/-- A new array of elements: how it stands for a slice by value. -/
theorem fresh_rv {g' : G} {w1 : World} {sz : Nat} {es xs : List PV} {olds news us : Array Value} {T : TypeId} (hx1 : Ext N0 g w g' w1) (hho : Holds N0 g w sz es olds) (hhn : Holds N0 g w sz xs news) {rest : Array Value}
    (hus : us = olds ++ news ++ rest) (hw1 : w1.heap[w.heap.size]? = some (.cells us T (0, 0))) {m : Nat} (hhw : g'.hw w.heap.size = some m) (hm : (es.length + xs.length) * sz ≤ m) (ow : Own) (cap : Nat) (hcap : es.length + xs.length ≤ cap) (hnf : ow ≠ .full)
    (htk : ∀ t, ow = .tok t → t < g'.n ∧ g'.tk t = ⟨es.length + xs.length, w.heap.size, 0, cap, sz⟩) :
    RV N0 g' w1 (.sl ow sz (es ++ strips xs)) (.slice (some ⟨w.heap.size, 0, none⟩) (es.length + xs.length) cap) := by
  have e1 := hho.1
  have e2 := hhn.1
  have hlen2 : (es ++ strips xs).length = es.length + xs.length := by simp [strips_length]
  have husz : (es.length + xs.length) * sz ≤ us.size := by
    simp only [hus, Array.size_append, e1, e2, Nat.add_mul]; omega
  obtain ⟨j1, j2⟩ := joined_rv (us := us) hx1 hho hhn (fun q hq => by
    rw [hus, Array.getD_eq_getD_getElem?, Array.getElem?_append_left (by simp only [Array.size_append, e1, e2]; rw [Nat.add_mul] at hq; exact hq), ← Array.getD_eq_getD_getElem?])
  have := RV.sl (N0 := N0) (g := g') (w := w1) ow sz (es ++ strips xs) w.heap.size 0 cap (fun i j => us.getD (i * sz + j) Go.undef)
    (by omega) (fun h => (hnf h).elim) j1 (fun i j hi' hj => by
      rw [hlen2] at hi'
      have hlt := mul_lt_of hi' hj
      rw [Nat.zero_add]
      have hq : i * sz + j < us.size := by omega
      simp [World.cell?, hw1, Array.getD_eq_getD_getElem?, hq]) j2 (fun _ => .inr ⟨m, hhw, by rw [hlen2]; omega⟩) none (fun _ => rfl)
    (fun t ht => by
      obtain ⟨t1, t2⟩ := htk t ht
      rw [hlen2, t2]
      exact ⟨t1, Nat.le_refl _, fun _ => ⟨rfl, rfl⟩⟩)
  rw [hlen2] at this
  exact this

omit hgl in
theorem grown_le (w : World) (need old : Nat) (el : TypeId) : need ≤ grownCap w need old el := by
  unfold grownCap
  simp only [Question.cut]
  omega

/-- What an append's two slices are. -/
theorem append_args (k : Ok (N0 := N0) w0 g e a.tmps h w) {c : Go.Call} (ho : o.op = .call c) (hb : c.callee = .builtin .append) {s x : Operand} {t u : TypeId} (hargs : c.args = #[s, x]) (htys : c.argTypes = #[t, u])
    {sz : Nat} (hpos : sz ≠ 0) {s' x' : Opnd} (hs' : cOpnd gl s = some s') (hx' : cOpnd gl x = some x') {p q : PV} (hp : ev e s' = some p) (hq : ev e x' = some q) {xs : List PV} (hxs : elems h q = some xs) (hall : xs.all (fun x => x.cells.length == sz) = true) :
    RV N0 g w p (a.eval s) ∧ (Builtin.lenOf (a.eval x)).run P w = .ok xs.length w ∧ (∃ news : Array Value, (∀ w1 : World, w1 = w ∨ w1 = w.drew → (Builtin.firstCells sz xs.length (a.eval x)).run P w1 = .ok news w1) ∧ Holds N0 g w sz xs news) ∧
    ∀ v w1, (Builtin.append_ #[t, u] o.type #[a.eval s, a.eval x]).run P w = .ok v w1 → (execOp a.eval o).run P w = .ok (.value v) w1 := by
  have h1 := rv_ev hgl k hs' hp
  have h2 := rv_ev hgl k hx' hq
  obtain ⟨hlen, hnews⟩ := src_rv (P := P) k hpos h2 hxs hall
  obtain ⟨cs, hrun⟩ := run_of_builtin (P := P) (w := w) (a := a) ho hb
  rw [hargs, htys] at hrun
  simp only [builtin, List.map_toArray, List.map_cons, List.map_nil] at hrun
  refine ⟨h1, hlen, hnews, fun v w1 hr => ?_⟩
  rw [hrun]
  simp only [Sem.run_bind, hr, Result.andThen, Sem.run_pure]

theorem g_append (k : Ok (N0 := N0) w0 g e a.tmps h w) {c : Go.Call} (ho : o.op = .call c) (hb : c.callee = .builtin .append) {s x : Operand} {t u el : TypeId} (hargs : c.args = #[s, x]) (htys : c.argTypes = #[t, u])
    (ht : P.underlying t = some (.slice el)) (hu : P.underlying u = some .string ∨ ∃ el', P.underlying u = some (.slice el')) {sz : Nat} (hsz : sizeOf P el = some sz) (hsm : smallBytes P el = true) (hpos : sz ≠ 0) {z : List PV} (hz : zeroOf P el = some z) (hzl : z.length = sz)
    {s' x' : Opnd} (hs' : cOpnd gl s = some s') (hx' : cOpnd gl x = some x')
    (hs : step orc base draw (.append sz s' x') e h = some (v, e', h')) : Gives N0 P w0 g a w (execOp a.eval o) v e' h' := by
  simp only [step, Option.bnd_eq_some_iff] at hs
  obtain ⟨p, hp, q, hq, xs, hxs, hs⟩ := hs
  obtain ⟨i, zv, hi, hiz, hzsz, _⟩ := rv_zero (N0 := N0) hz
  have hisz : i.size = sz := by simp only [sizeOf, Option.map_eq_some_iff] at hsz; obtain ⟨i', e1, e2⟩ := hsz; rw [hi] at e1; cases e1; exact e2
  have hbytes : i.bytes ≤ 4096 := by simp only [smallBytes, hi, decide_eq_true_eq] at hsm; exact hsm
  split at hs
  · rename_i hall
    obtain ⟨h1, hlen, ⟨news, hnew, hold2⟩, hrun⟩ := append_args hgl k ho hb hargs htys hpos hs' hx' hp hq hxs hall
    have none_ : ∀ (b : Option Addr) (n cap : Nat), n ≤ cap → a.eval s = .slice b n cap → xs.length = 0 → (execOp a.eval o).run P w = .ok (.value (.slice b n cap)) w := by
      intro b n cap hc hA hx0
      rw [hx0] at hlen hnew
      exact hrun _ _ (by rw [hA]; exact append_none ht hu hi b n cap hc (a.eval x) hlen news (by rw [hold2.1, hx0, Nat.zero_mul]) (by rw [hisz]; exact hnew w (.inl rfl)))
    have some_ : ∀ (b : Option Addr) (es : List PV) (olds : Array Value), a.eval s = .slice b es.length es.length → 0 < xs.length → es.length + xs.length ≤ lim2 →
        (∀ w1 : World, w1 = w ∨ w1 = w.drew → (Builtin.firstCells sz es.length (.slice b es.length es.length)).run P w1 = .ok olds w1) → Holds N0 g w sz es olds →
        Gives N0 P w0 g a w (execOp a.eval o) (.sl .no sz (es ++ strips xs)) e h := by
      intro b es olds hA hx0 hlim hfo hho
      unfold lim2 at hlim
      have hfit : Builtin.nextslicecap (es.length + xs.length) es.length * i.bytes ≤ 281474976710656 := by
        apply growslice_fits (by omega)
        have : (es.length + xs.length) * i.bytes ≤ 17179869184 * 4096 := Nat.mul_le_mul hlim hbytes
        omega
      have hr := append_grow (ty := o.type) ht hu hi hiz b es.length es.length (a.eval x) xs.length (by omega) hlen olds news (by rw [hisz]; exact hfo) (by rw [hisz]; exact hnew) (by omega) hfit
      obtain ⟨g', hx1, hok, hhw⟩ := ok_fixed k _ el ((es.length + xs.length) * sz) _ (lo := 0) (hi := 0) (.inr rfl)
      refine ⟨_, _, _, g', hrun _ _ (by rw [hA]; exact hr), .inl rfl, hx1, hok, ?_⟩
      exact fresh_rv hx1 hho hold2 rfl (MadeBy.at (.inr rfl)) hhw (Nat.le_refl _) .no _ (grown_le _ _ _ _) (by simp) (by simp)
    generalize hA : a.eval s = A at h1 none_ some_
    cases h1 <;> (try simp only at hs) <;> (try cases hs)
    case nils =>
      split at hs
      · rename_i hl
        simp only [Option.some.injEq, Prod.mk.injEq] at hs
        obtain ⟨rfl, rfl, rfl⟩ := hs
        rcases Nat.eq_zero_or_pos xs.length with h0 | hp
        · have : xs = [] := List.eq_nil_of_length_eq_zero h0
          subst this
          simp only [List.isEmpty_nil, if_true]
          exact gives_pure k (none_ none 0 0 (Nat.le_refl _) rfl rfl) .nils
        · have hne : xs.isEmpty = false := by cases xs <;> simp at hp ⊢
          rw [hne]
          simp only [Bool.false_eq_true, if_false]
          have := some_ none [] #[] rfl hp (by simpa using hl) (fun w1 _ => by simp [Builtin.firstCells]) ⟨by simp, by simp, by simp⟩
          simpa using this
      · cases hs
    case sl ow sz' es c' o' cap uu q1 q2 q3 q4 q5 q6 q7 q8 q9 =>
      cases ow <;> (try simp only at hs) <;> (try cases hs)
      case full =>
        split at hs
        · rename_i hl
          obtain ⟨rfl, hl⟩ := hl
          simp only [Option.some.injEq, Prod.mk.injEq] at hs
          obtain ⟨rfl, rfl, rfl⟩ := hs
          have hcap := q2 rfl
          subst hcap
          rcases Nat.eq_zero_or_pos xs.length with h0 | hp
          · have : xs = [] := List.eq_nil_of_length_eq_zero h0
            subst this
            simp only [List.isEmpty_nil, if_true]
            exact gives_pure k (none_ _ es.length es.length (Nat.le_refl _) rfl rfl) (.sl .full sz' es c' o' es.length uu q1 q2 q3 q4 q5 q6 q7 q8 q9)
          · have hne : xs.isEmpty = false := by cases xs <;> simp at hp ⊢
            rw [hne]
            simp only [Bool.false_eq_true, if_false]
            obtain ⟨olds, hfo, hho, hval⟩ := holds_of (P := P) (g := g) (w := w) hpos q3 q4 q5 q8 es.length es.length
            exact some_ _ es olds rfl hp hl hfo hho
        · cases hs
  · cases hs

theorem g_appendT (k : Ok (N0 := N0) w0 g e a.tmps h w) {c : Go.Call} (ho : o.op = .call c) (hb : c.callee = .builtin .append) {s x : Operand} {t u el : TypeId} (hargs : c.args = #[s, x]) (htys : c.argTypes = #[t, u])
    (ht : P.underlying t = some (.slice el)) (hu : P.underlying u = some .string ∨ ∃ el', P.underlying u = some (.slice el')) {sz : Nat} (hsz : sizeOf P el = some sz) (hsm : smallBytes P el = true) (hpos : sz ≠ 0) {z : List PV} (hz : zeroOf P el = some z) (hzl : z.length = sz)
    {s' x' : Opnd} (hs' : cOpnd gl s = some s') (hx' : cOpnd gl x = some x')
    (hs : step orc base draw (.appendT el sz s' x') e h = some (v, e', h')) : Gives N0 P w0 g a w (execOp a.eval o) v e' h' := by
  simp only [step, Option.bnd_eq_some_iff, Option.some.injEq, Prod.mk.injEq] at hs
  obtain ⟨p, hp, q, hq, xs, hxs, r, hs, rfl, rfl, rfl⟩ := hs
  obtain ⟨i, zv, hi, hiz, hzsz, _⟩ := rv_zero (N0 := N0) hz
  have hisz : i.size = sz := by simp only [sizeOf, Option.map_eq_some_iff] at hsz; obtain ⟨i', e1, e2⟩ := hsz; rw [hi] at e1; cases e1; exact e2
  have hbytes : i.bytes ≤ 4096 := by simp only [smallBytes, hi, decide_eq_true_eq] at hsm; exact hsm
  unfold growT at hs
  split at hs
  · rename_i hfit0
    have hall : xs.all (fun x => x.cells.length == sz) = true := by
      rw [List.all_eq_true] at hfit0 ⊢
      intro x hx
      have := hfit0 x hx
      simp only [fits, Bool.and_eq_true] at this
      exact this.1
    obtain ⟨h1, hlen, ⟨news, hnew, hold2⟩, hrun⟩ := append_args hgl k ho hb hargs htys hpos hs' hx' hp hq hxs hall
    have none_ : ∀ (b : Option Addr) (n cap : Nat), n ≤ cap → a.eval s = .slice b n cap → xs.length = 0 → (execOp a.eval o).run P w = .ok (.value (.slice b n cap)) w := by
      intro b n cap hc hA hx0
      rw [hx0] at hlen hnew
      exact hrun _ _ (by rw [hA]; exact append_none ht hu hi b n cap hc (a.eval x) hlen news (by rw [hold2.1, hx0, Nat.zero_mul]) (by rw [hisz]; exact hnew w (.inl rfl)))
    have hfit : ∀ n cap, n + xs.length ≤ lim2 → cap < n + xs.length → Builtin.nextslicecap (n + xs.length) cap * i.bytes ≤ 281474976710656 := by
      intro n cap hlim hc
      unfold lim2 at hlim
      apply growslice_fits hc
      have : (n + xs.length) * i.bytes ≤ 17179869184 * 4096 := Nat.mul_le_mul hlim hbytes
      omega
    have some_ : ∀ (b : Option Addr) (es : List PV) (olds : Array Value), a.eval s = .slice b es.length es.length → 0 < xs.length → es.length + xs.length ≤ lim2 →
        (∀ w1 : World, w1 = w ∨ w1 = w.drew → (Builtin.firstCells sz es.length (.slice b es.length es.length)).run P w1 = .ok olds w1) → Holds N0 g w sz es olds →
        Gives N0 P w0 g a w (execOp a.eval o) (.sl (.tok (size h)) sz (es ++ strips xs)) e (ext h [.tok (es.length + xs.length) el]) := by
      intro b es olds hA hx0 hlim hfo hho
      have hr := append_grow (ty := o.type) ht hu hi hiz b es.length es.length (a.eval x) xs.length (by omega) hlen olds news (by rw [hisz]; exact hfo) (by rw [hisz]; exact hnew) (by unfold lim2 at hlim; omega) (hfit _ _ hlim (by omega))
      let cap := grownCap w (es.length + xs.length) es.length el
      have hcap : es.length + xs.length ≤ cap := grown_le _ _ _ _
      obtain ⟨g', hx1, hok, hn', _, hhw, htk⟩ := ok_newbox k (.inr rfl : MadeBy w _ (.cells (olds ++ news ++ Builtin.zeroCells zv.cells (cap - (es.length + xs.length))) el)) (.tok (es.length + xs.length) el) (some ((es.length + xs.length) * sz))
        ⟨es.length + xs.length, w.heap.size, 0, cap, sz⟩ (fun n T hn => ⟨rfl, rfl⟩) (fun g' hx1 hι hhw htk => by
          simp only [BoxOk, htk]
          refine ⟨trivial, hcap, ok_size k, by rw [hhw, Nat.zero_add], trivial, _, 0, 0, MadeBy.at (.inr rfl), ?_, Nat.zero_le _⟩
          have e1 := hho.1
          have e2 := hold2.1
          have e3 : (Builtin.zeroCells zv.cells (cap - (es.length + xs.length))).size = (cap - (es.length + xs.length)) * zv.cells.size := by simp [Builtin.zeroCells]
          have e4 : zv.cells.size = sz := by rw [hzsz, hzl]
          simp only [Array.size_append, e1, e2, e3, e4, Nat.zero_add]
          rw [← Nat.add_mul, ← Nat.add_mul]
          apply Nat.mul_le_mul_right
          omega)
      refine ⟨_, _, _, g', hrun _ _ (by rw [hA]; exact hr), .inl rfl, hx1, hok, ?_⟩
      exact fresh_rv hx1 hho hold2 rfl (MadeBy.at (.inr rfl)) hhw (Nat.le_refl _) (.tok (size h)) _ hcap (by simp) (fun t ht' => by cases ht'; exact ⟨by rw [hn']; omega, htk⟩)
    generalize hA : a.eval s = A at h1 none_ some_ hrun
    cases h1 <;> (try simp only at hs) <;> (try cases hs)
    case nils =>
      split at hs
      · rename_i hl
        simp only [Option.some.injEq] at hs
        subst hs
        rcases Nat.eq_zero_or_pos xs.length with h0 | hp
        · have : xs = [] := List.eq_nil_of_length_eq_zero h0
          subst this
          simp only [List.isEmpty_nil, if_true]
          exact gives_pure k (none_ none 0 0 (Nat.le_refl _) rfl rfl) .nils
        · have hne : xs.isEmpty = false := by cases xs <;> simp at hp ⊢
          rw [hne]
          simp only [Bool.false_eq_true, if_false]
          have := some_ none [] #[] rfl hp (by simpa using hl) (fun w1 _ => by simp [Builtin.firstCells]) ⟨by simp, by simp, by simp⟩
          simpa using this
      · cases hs
    case sl ow sz' es c' o' cap uu q1 q2 q3 q4 q5 q6 q7 q8 q9 =>
      cases ow <;> (try simp only at hs) <;> (try cases hs)
      case full =>
        split at hs
        · rename_i hl
          obtain ⟨rfl, hl⟩ := hl
          simp only [Option.some.injEq] at hs
          subst hs
          have hcap := q2 rfl
          subst hcap
          rcases Nat.eq_zero_or_pos xs.length with h0 | hp
          · have : xs = [] := List.eq_nil_of_length_eq_zero h0
            subst this
            simp only [List.isEmpty_nil, if_true]
            exact gives_pure k (none_ _ es.length es.length (Nat.le_refl _) rfl rfl) (.sl .full sz' es c' o' es.length uu q1 q2 q3 q4 q5 q6 q7 q8 q9)
          · have hne : xs.isEmpty = false := by cases xs <;> simp at hp ⊢
            rw [hne]
            simp only [Bool.false_eq_true, if_false]
            obtain ⟨olds, hfo, hho, hval⟩ := holds_of (P := P) (g := g) (w := w) hpos q3 q4 q5 q8 es.length es.length
            exact some_ _ es olds rfl hp hl hfo hho
        · cases hs
      case tok tb =>
        simp only [Option.bnd_eq_some_iff] at hs
        obtain ⟨n, hn, hs⟩ := hs
        split at hs
        · rename_i hl
          obtain ⟨rfl, rfl, hl⟩ := hl
          simp only [Option.some.injEq] at hs
          subst hs
          obtain ⟨t1, t2, t3⟩ := q9 tb rfl
          have hbx := box_of_tok hn
          have hb0 := k.box tb _ hbx
          simp only [BoxOk] at hb0
          obtain ⟨b1, b2, b3, b4, b8, arr, lo, hi', b5, b6, b7⟩ := hb0
          obtain ⟨t4, rfl⟩ := t3 b1
          rw [t4] at b1 b2 b3 b4 b5 b6 b7 b8
          simp only at b1 b2 b3 b4 b5 b6 b7 b8
          have hblk : blk g tb (.tok es.length el) = c' := by simp only [blk, t4]
          obtain ⟨olds, hfo, hho, hval⟩ := holds_of (P := P) (g := g) (w := w) hpos q3 q4 q5 q8 es.length cap
          have hcsz := (blk_lt k hbx).2
          rw [hblk] at hcsz
          by_cases hroom : es.length + xs.length ≤ cap
          · -- in place
            have hmul : (es.length + xs.length) * sz' ≤ cap * sz' := Nat.mul_le_mul_right _ hroom
            rw [Nat.add_mul] at hmul
            have e2 := hold2.1
            obtain ⟨w1, arr', s1, s2, s3, s4, s5, s6, s7⟩ := store_raw (P := P) (N0 := N0) (off := o' + es.length * sz') news.toList 0 w arr b5 (by simp only [Array.length_toList, e2]; omega) (fun _ => b7) (fun y hy => by
              obtain ⟨j, hj⟩ := List.mem_iff_getElem?.1 hy
              have hjl : j < xs.length * sz' := by rw [← e2, ← Array.length_toList]; exact (List.getElem?_eq_some_iff.1 hj).1
              have hdj : j / sz' < xs.length := Nat.div_lt_of_lt_mul (by rwa [Nat.mul_comm] at hjl)
              have hmj : j % sz' < sz' := Nat.mod_lt _ (by omega)
              obtain ⟨x0, hx0⟩ : ∃ x0, xs[j / sz']? = some x0 := ⟨_, List.getElem?_eq_getElem hdj⟩
              have hf := List.all_eq_true.1 hfit0 x0 (List.mem_of_getElem? hx0)
              simp only [fits, Bool.and_eq_true, beq_iff_eq] at hf
              obtain ⟨y0, hy0⟩ : ∃ y0, x0.cells[j % sz']? = some y0 := ⟨_, List.getElem?_eq_getElem (by omega)⟩
              have hsc := List.all_eq_true.1 hf.2 y0 (List.mem_of_getElem? hy0)
              have hrv := hold2.2.2 (j / sz') (j % sz') x0 y0 hx0 hy0
              rw [show j / sz' * sz' + j % sz' = j by rw [Nat.mul_comm]; exact Nat.div_add_mod j sz'] at hrv
              have hyv : news.getD j Go.undef = y := by
                rw [Array.getElem?_toList] at hj
                rw [Array.getD_eq_getD_getElem?, hj]; rfl
              rw [hyv] at hrv
              constructor
              · intro l hq; subst hq; cases hrv; simp [scalar] at hsc; simp [scalar] at hsc
              · intro l hq; subst hq; cases hrv; simp [scalar] at hsc; simp [scalar] at hsc) b3
            have hr := append_room (ty := o.type) ht hu hi ⟨c', o', none⟩ es.length cap (a.eval x) xs.length hroom hlen news (by rw [hisz]; exact hnew w (.inl rfl)) (w1 := w1) (by rw [hisz, add_addr]; exact s1)
            let g' : G := { g with hw := fun d => if d = c' then some (o' + (es.length + xs.length) * sz') else g.hw d, tk := fun d => if d = tb then ⟨es.length + xs.length, c', o', cap, sz'⟩ else g.tk d }
            have ghw : g'.hw c' = some (o' + (es.length + xs.length) * sz') := by show (if c' = c' then _ else _) = _; rw [if_pos rfl]
            have ghwo : ∀ d, d ≠ c' → g'.hw d = g.hw d := fun d hd => by show (if d = c' then _ else _) = _; rw [if_neg hd]
            have gtk : g'.tk tb = ⟨es.length + xs.length, c', o', cap, sz'⟩ := by show (if tb = tb then _ else _) = _; rw [if_pos rfl]
            have gtko : ∀ d, d ≠ tb → g'.tk d = g.tk d := fun d hd => by show (if d = tb then _ else _) = _; rw [if_neg hd]
            have hcell : ∀ q, (q < o' + es.length * sz' ∨ o' + (es.length + xs.length) * sz' ≤ q) → w1.cell? ⟨c', q, none⟩ = w.cell? ⟨c', q, none⟩ := by
              intro q hq
              simp only [World.cell?, s2, b5, s7, Option.isSome_none, Bool.false_eq_true, if_false]
              rw [if_neg]
              simp only [Array.length_toList, e2]
              rw [Nat.add_mul] at hq
              omega
            have hx1 : Ext N0 g w g' w1 := by
              refine ⟨Nat.le_refl _, fun _ _ => rfl, fun d m hm => ?_, fun d m q hm hq => ?_, fun d q hd => ?_, fun d hd => ?_⟩
              · by_cases hd : d = c'
                · subst hd
                  rw [b4] at hm
                  cases hm
                  exact ⟨_, ghw, by rw [Nat.add_mul]; omega⟩
                · exact ⟨m, by rw [ghwo d hd]; exact hm, Nat.le_refl _⟩
              · by_cases hd : d = c'
                · subst hd
                  rw [b4] at hm
                  cases hm
                  exact hcell q (.inl hq)
                · simp only [World.cell?, s5 d hd]
              · simp only [World.cell?, s5 d (by omega)]
              · by_cases hd2 : d = tb
                · subst hd2
                  rw [gtk, t4]
                  refine ⟨by simp, fun hq => ?_⟩
                  simp only [Nat.add_eq_left] at hq
                  simp only [hq, Nat.add_zero]
                · rw [gtko d hd2]; exact ⟨Nat.le_refl _, fun _ => rfl⟩
            have hok : Ok (N0 := N0) w0 g' e a.tmps (setBx h tb (.tok (es.length + xs.length) el)) w1 := by
              refine ok_setbox k hbx hx1 rfl s6 (.inl (by rw [hblk]; simp only [blk, gtk])) (fun d _ hd => ?_) gtko ?_ (fun d m hm => ?_)
              · rw [hblk] at hd; exact ⟨s5 d hd, ghwo d hd⟩
              · simp only [BoxOk, gtk]
                exact ⟨trivial, hroom, b3, ghw, b8, arr', lo, hi', s2, by rw [s3]; exact b6, by rw [Nat.add_mul]; omega⟩
              · by_cases hd : d = c'
                · subst hd; exact ⟨b3, by rw [s4]; exact hcsz⟩
                · rw [ghwo d hd] at hm
                  have := k.arr d m hm
                  exact ⟨this.1, by rw [s4]; exact this.2⟩
            refine ⟨_, _, w1, g', hrun _ _ hr, .inl rfl, hx1, hok, ?_⟩
            have hlen2 : (es ++ strips xs).length = es.length + xs.length := by simp [strips_length]
            obtain ⟨j1, j2⟩ := joined_rv (us := olds ++ news) hx1 hho hold2 (fun q _ => rfl)
            have := RV.sl (N0 := N0) (g := g') (w := w1) (.tok tb) sz' (es ++ strips xs) c' o' cap (fun i j => (olds ++ news).getD (i * sz' + j) Go.undef)
              (by rw [hlen2]; exact hroom) (by simp) j1 (fun i j hi1 hj => by
                rw [hlen2] at hi1
                have hlt := mul_lt_of hi1 hj
                have e1 := hho.1
                by_cases hio : i < es.length
                · have hlt2 := mul_lt_of hio hj
                  rw [hcell _ (.inl (by omega)), q4 i j hio hj, Array.getD_eq_getD_getElem?, Array.getElem?_append_left (by omega), ← Array.getD_eq_getD_getElem?]
                  rw [hval i j hio hj]
                · have hge : es.length * sz' ≤ i * sz' := Nat.mul_le_mul_right _ (by omega)
                  rw [Nat.add_mul] at hlt
                  simp only [World.cell?, s2, s7, Array.length_toList, e2, Option.isSome_none, Bool.false_eq_true, if_false]
                  rw [if_pos (by omega), Array.getElem?_toList, Array.getD_eq_getD_getElem?, Array.getElem?_append_right (by omega), show o' + (i * sz' + j) - (o' + es.length * sz' + 0) = i * sz' + j - olds.size by omega]
                  have : i * sz' + j - olds.size < news.size := by omega
                  simp [this]) j2 (fun _ => .inr ⟨_, ghw, by rw [hlen2]; exact Nat.le_refl _⟩) none (fun _ => rfl)
              (fun t ht' => by
                cases ht'
                rw [hlen2, gtk]
                exact ⟨t1, Nat.le_refl _, fun _ => ⟨rfl, rfl⟩⟩)
            rw [hlen2] at this
            exact this
          · -- a new array
            have hr := append_grow (ty := o.type) ht hu hi hiz (some ⟨c', o', none⟩) es.length cap (a.eval x) xs.length (by omega) hlen olds news (by rw [hisz]; exact hfo) (by rw [hisz]; exact hnew) (by unfold lim2 at hl; omega) (hfit _ _ hl (by omega))
            let ncap := grownCap w (es.length + xs.length) cap el
            have hcap : es.length + xs.length ≤ ncap := grown_le _ _ _ _
            let us : Array Value := olds ++ news ++ Builtin.zeroCells zv.cells (ncap - (es.length + xs.length))
            have hm : MadeBy w (w.drew.alloc (.cells us el)) (.cells us el) := .inr rfl
            let g' : G := { g with hw := fun d => if d = w.heap.size then some ((es.length + xs.length) * sz') else g.hw d, tk := fun d => if d = tb then ⟨es.length + xs.length, w.heap.size, 0, ncap, sz'⟩ else g.tk d }
            have ghw : g'.hw w.heap.size = some ((es.length + xs.length) * sz') := by show (if w.heap.size = w.heap.size then _ else _) = _; rw [if_pos rfl]
            have ghwo : ∀ d, d ≠ w.heap.size → g'.hw d = g.hw d := fun d hd => by show (if d = w.heap.size then _ else _) = _; rw [if_neg hd]
            have gtk : g'.tk tb = ⟨es.length + xs.length, w.heap.size, 0, ncap, sz'⟩ := by show (if tb = tb then _ else _) = _; rw [if_pos rfl]
            have gtko : ∀ d, d ≠ tb → g'.tk d = g.tk d := fun d hd => by show (if d = tb then _ else _) = _; rw [if_neg hd]
            have hN := ok_size k
            have hx1 : Ext N0 g w g' (w.drew.alloc (.cells us el)) := by
              refine ⟨Nat.le_refl _, fun _ _ => rfl, fun d m hm' => ⟨m, ?_, Nat.le_refl _⟩, fun d m q hm' hq => hm.cell (k.arr d m hm').2 q, fun d q hd => hm.cell (by omega) q, fun d hd => ?_⟩
              · rw [ghwo d (by have := (k.arr d m hm').2; omega)]; exact hm'
              · by_cases hd2 : d = tb
                · subst hd2
                  rw [gtk, t4]
                  refine ⟨by simp, fun hq => ?_⟩
                  simp only [Nat.add_eq_left] at hq
                  omega
                · rw [gtko d hd2]; exact ⟨Nat.le_refl _, fun _ => rfl⟩
            have husz : 0 + ncap * sz' ≤ us.size := by
              have e1 := hho.1
              have e2 := hold2.1
              have e3 : (Builtin.zeroCells zv.cells (ncap - (es.length + xs.length))).size = (ncap - (es.length + xs.length)) * zv.cells.size := by simp [Builtin.zeroCells]
              have e4 : zv.cells.size = sz' := by rw [hzsz, hzl]
              simp only [us, Array.size_append, e1, e2, e3, e4, Nat.zero_add]
              rw [← Nat.add_mul, ← Nat.add_mul]
              apply Nat.mul_le_mul_right
              omega
            have hok : Ok (N0 := N0) w0 g' e a.tmps (setBx h tb (.tok (es.length + xs.length) el)) (w.drew.alloc (.cells us el)) := by
              refine ok_setbox k hbx hx1 rfl (hm.below hN) (.inr (by simp only [blk, gtk]; exact Nat.le_refl _)) (fun d hd1 hd => ⟨hm.lt hd1, ghwo d (by omega)⟩) gtko ?_ (fun d m hm' => ?_)
              · simp only [BoxOk, gtk]
                exact ⟨trivial, hcap, hN, by rw [ghw, Nat.zero_add], trivial, us, 0, 0, hm.at, husz, Nat.zero_le _⟩
              · by_cases hd : d = w.heap.size
                · subst hd; exact ⟨hN, by rw [hm.size]; omega⟩
                · rw [ghwo d hd] at hm'
                  have := k.arr d m hm'
                  exact ⟨this.1, by rw [hm.size]; omega⟩
            refine ⟨_, _, _, g', hrun _ _ hr, .inl rfl, hx1, hok, ?_⟩
            exact fresh_rv hx1 hho hold2 rfl hm.at ghw (Nat.le_refl _) (.tok tb) _ hcap (by simp) (fun t ht' => by cases ht'; exact ⟨t1, gtk⟩)
        · cases hs
  · cases hs
end
end Go.Am
