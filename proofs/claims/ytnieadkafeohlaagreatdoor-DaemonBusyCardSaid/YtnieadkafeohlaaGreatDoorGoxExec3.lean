/- The abstract machine's operations, run: the rest. -/
import Derived.Test.YtnieadkafeohlaaGreatDoorGoxExec2
set_option linter.unusedVariables false
set_option linter.unusedSimpArgs false
namespace Go.X
noncomputable section

def oIdxS (sz : Nat) (x i : AV) : Option AV :=
  match x, i with
  | .sl _ n cs, .int _ j => if 0 ≤ j ∧ j < n then some (.sptr cs (j.toNat * sz)) else none
  | .osl o sz' off n, .int _ j => if sz' = sz ∧ 0 ≤ j ∧ j < n then some (.ptr o (off + j.toNat * sz)) else none
  | _, _ => none
theorem oIdxS_ok {sz : Nat} {x i v : AV} {K : AV → Prop} (h : oIdxS sz x i = some v) (hk : K v) : sIdxS sz x i K := by
  unfold oIdxS at h; unfold sIdxS; split at h
  · split at h
    · rename_i hc; simp at h; subst h; exact ⟨hc.1, hc.2, hk⟩
    · simp at h
  · split at h
    · rename_i hc; simp at h; subst h; exact ⟨hc.1, hc.2.1, hc.2.2, hk⟩
    · simp at h
  · simp at h

def oIdxA (sz n : Nat) (x i : AV) : Option AV :=
  match x, i with
  | .ptr o off, .int _ j => if 0 ≤ j ∧ j < n then some (.ptr o (off + j.toNat * sz)) else none
  | .sptr cs off, .int _ j => if 0 ≤ j ∧ j < n then some (.sptr cs (off + j.toNat * sz)) else none
  | _, _ => none
theorem oIdxA_ok {sz n : Nat} {x i v : AV} {K : AV → Prop} (h : oIdxA sz n x i = some v) (hk : K v) : sIdxA sz n x i K := by
  unfold oIdxA at h; unfold sIdxA; split at h
  · split at h
    · rename_i hc; simp at h; subst h; exact ⟨hc.1, hc.2, hk⟩
    · simp at h
  · split at h
    · rename_i hc; simp at h; subst h; exact ⟨hc.1, hc.2, hk⟩
    · simp at h
  · simp at h

def oIndex (sz : Option Nat) (esz n : Nat) (x i : AV) : Option AV :=
  match x, i with
  | .agg cs, .int _ j => if 0 ≤ j ∧ j < n then (match sz with
    | some k => if j.toNat * esz + k ≤ cs.length then some (.agg ((cs.drop (j.toNat * esz)).take k)) else none
    | none => cs[j.toNat * esz]?) else none
  | _, _ => none
theorem oIndex_ok {sz : Option Nat} {esz n : Nat} {x i v : AV} {K : AV → Prop} (h : oIndex sz esz n x i = some v) (hk : K v) : sIndex sz esz n x i K := by
  unfold oIndex at h; unfold sIndex; split at h
  · split at h
    · rename_i hc
      refine ⟨hc.1, hc.2, ?_⟩
      split at h
      · split at h
        · simp at h; subst h; exact ⟨‹_›, hk⟩
        · simp at h
      · simp only [h]; exact hk
    · simp at h
  · simp at h

def oIndexS (x i : AV) : Option AV :=
  match x, i with
  | .str s, .int _ j => if 0 ≤ j then (match s[j.toNat]? with
    | some b => some (.int .u8 b.toNat)
    | none => none) else none
  | _, _ => none
theorem oIndexS_ok {x i v : AV} {K : AV → Prop} (h : oIndexS x i = some v) (hk : K v) : sIndexS x i K := by
  unfold oIndexS at h; unfold sIndexS; split at h
  · split at h
    · refine ⟨‹_›, ?_⟩
      split at h
      · rename_i hb; simp only [hb]; simp at h; subst h; exact hk
      · simp at h
    · simp at h
  · simp at h

def oField (off : Nat) (sz : Option Nat) (x : AV) : Option AV :=
  match x with
  | .agg cs => (match sz with
    | some k => if off + k ≤ cs.length then some (.agg ((cs.drop off).take k)) else none
    | none => cs[off]?)
  | _ => none
theorem oField_ok {off : Nat} {sz : Option Nat} {x v : AV} {K : AV → Prop} (h : oField off sz x = some v) (hk : K v) : sField off sz x K := by
  unfold oField at h; unfold sField; split at h
  · split at h
    · split at h
      · simp at h; subst h; exact ⟨‹_›, hk⟩
      · simp at h
    · simp only [h]; exact hk
  · simp at h

def oLookup (m : Mem) (ik : Option IntKind) (ok : Bool) (zero : AV) (x k : AV) : Option AV :=
  match keyOf ik k with
  | none => none
  | some k => (match x with
    | .val (.map none) => some (if ok then .tup [zero, .bool false] else zero)
    | .mp o => (match m o with
      | some (.map ik' es _) => if ik' = ik then (match findA k es with
        | some v => some (if ok then .tup [v, .bool true] else v)
        | none => some (if ok then .tup [zero, .bool false] else zero)) else none
      | _ => none)
    | _ => none)
theorem oLookup_ok {m : Mem} {ik : Option IntKind} {ok : Bool} {zero x k v : AV} {K : AV → Prop} (h : oLookup m ik ok zero x k = some v) (hk : K v) : sLookup m ik ok zero x k K := by
  unfold oLookup at h; unfold sLookup; split at h
  · simp at h
  · rename_i k' hk'
    simp only [hk']
    split at h
    · simp only [Option.some.injEq] at h; subst h; exact hk
    · split at h
      · rename_i hm
        simp only [hm]
        split at h
        · refine ⟨‹_›, ?_⟩
          split at h
          · rename_i hf; simp only [hf]; simp only [Option.some.injEq] at h; subst h; exact hk
          · rename_i hf; simp only [hf]; simp only [Option.some.injEq] at h; subst h; exact hk
        · simp at h
      · simp at h
    · simp at h

def oMupd (B : List Nat) (m : EM) (ik : Option IntKind) (x k v : AV) : Option EM :=
  match keyOf ik k with
  | none => none
  | some k => if v.storable = true then (match x with
    | .mp o => if inB B o then none else (match m.mem o with
      | some (.map ik' es clk) => if ik' = ik then m.set o (.map ik (putA k v clk es) (if (findA k es).isSome then clk else clk + 1)) else none
      | _ => none)
    | _ => none) else none
theorem oMupd_ok {B : List Nat} {m m' : EM} {ik : Option IntKind} {x k v : AV} {K : Mem → Prop} (h : oMupd B m ik x k v = some m') (hk : K m'.mem) : sMupd (· ∈ B) m.mem ik x k v K := by
  unfold oMupd at h; unfold sMupd; split at h
  · simp at h
  · rename_i k' hk'
    simp only [hk']
    split at h
    · refine ⟨‹_›, ?_⟩
      split at h
      · split at h
        · simp at h
        · rename_i hb
          refine ⟨inB_no (by simpa using hb), ?_⟩
          split at h
          · rename_i hm
            simp only [hm]
            split at h
            · exact ⟨‹_›, by rw [← EM.set_mem h]; exact hk⟩
            · simp at h
          · simp at h
      · simp at h
    · simp at h

def oDel (B : List Nat) (m : EM) (ik : Option IntKind) (x k : AV) : Option EM :=
  match keyOf ik k with
  | none => none
  | some k => (match x with
    | .val (.map none) => some m
    | .mp o => if inB B o then none else (match m.mem o with
      | some (.map ik' es clk) => if ik' = ik then m.set o (.map ik (delA k es) clk) else none
      | _ => none)
    | _ => none)
theorem oDel_ok {B : List Nat} {m m' : EM} {ik : Option IntKind} {x k : AV} {K : Mem → Prop} (h : oDel B m ik x k = some m') (hk : K m'.mem) : sDel (· ∈ B) m.mem ik x k K := by
  unfold oDel at h; unfold sDel; split at h
  · simp at h
  · rename_i k' hk'
    simp only [hk']
    split at h
    · simp at h; subst h; exact hk
    · split at h
      · simp at h
      · rename_i hb
        refine ⟨inB_no (by simpa using hb), ?_⟩
        split at h
        · rename_i hm
          simp only [hm]
          split at h
          · exact ⟨‹_›, by rw [← EM.set_mem h]; exact hk⟩
          · simp at h
        · simp at h
    · simp at h

def oLen (x : AV) : Option AV :=
  match x with
  | .sl _ n _ => some (.int .i64 n)
  | .osl _ _ _ n => some (.int .i64 n)
  | _ => none
theorem oLen_ok {x v : AV} {K : AV → Prop} (h : oLen x = some v) (hk : K v) : sLen x K := by
  unfold oLen at h; unfold sLen; split at h <;> simp at h <;> subst h <;> exact hk
def oLenS (x : AV) : Option AV :=
  match x with
  | .str s => some (.int .i64 s.length)
  | _ => none
theorem oLenS_ok {x v : AV} {K : AV → Prop} (h : oLenS x = some v) (hk : K v) : sLenS x K := by
  unfold oLenS at h; unfold sLenS; split at h <;> simp at h <;> subst h <;> exact hk
def oLenM (m : Mem) (x : AV) : Option AV :=
  match x with
  | .val (.map none) => some (.int .i64 0)
  | .mp o => (match m o with
    | some (.map _ es _) => some (.int .i64 es.length)
    | _ => none)
  | _ => none
theorem oLenM_ok {m : Mem} {x v : AV} {K : AV → Prop} (h : oLenM m x = some v) (hk : K v) : sLenM m x K := by
  unfold oLenM at h; unfold sLenM; split at h
  · simp at h; subst h; exact hk
  · split at h
    · rename_i hm; simp only [hm]; simp at h; subst h; exact hk
    · simp at h
  · simp at h

def oApp (B : List Nat) (m : EM) (sz : Nat) (s x : AV) : Option (AV × EM) :=
  match source m.mem sz x with
  | none => none
  | some (k, xs) =>
    match s with
    | .sl h n cs => if n * sz = cs.length ∧ h ≠ .any ∧ n + k ≤ room then (if k = 0 then some (s, m) else (match m.new (.cells (cs ++ xs)) with
      | some m' => some (.osl m.nx sz 0 (n + k), m')
      | none => none)) else none
    | .osl o sz' off n => if sz' = sz ∧ inB B o = false ∧ n + k ≤ room then (match m.mem o with
      | some (.cells cs) => if off + n * sz ≤ cs.length then (match m.del o with
        | some m1 => (match m1.new (.cells ((cs.drop off).take (n * sz) ++ xs)) with
          | some m' => some (.osl m.nx sz 0 (n + k), m')
          | none => none)
        | none => none) else none
      | _ => none) else none
    | _ => none
theorem oApp_ok {B : List Nat} {m : EM} {sz : Nat} {s x : AV} {r : AV × EM} {K : AV → Mem → Prop} (h : oApp B m sz s x = some r) (hk : K r.1 r.2.mem) : sApp (· ∈ B) m.mem sz s x K := by
  unfold oApp at h; unfold sApp; split at h
  · simp at h
  · rename_i k xs hs
    simp only [hs]
    split at h
    · split at h
      · rename_i hc
        refine ⟨hc.1, hc.2.1, hc.2.2, ?_⟩
        split at h
        · rename_i h0; rw [if_pos h0]; simp at h; subst h; exact hk
        · rename_i h0; rw [if_neg h0]
          split at h
          · rename_i hn; simp at h; subst h; rw [← EM.new_mem hn]; exact hk
          · simp at h
      · simp at h
    · split at h
      · rename_i hc
        refine ⟨hc.1, inB_no hc.2.1, hc.2.2, ?_⟩
        split at h
        · rename_i hm
          simp only [hm]
          split at h
          · refine ⟨‹_›, ?_⟩
            split at h
            · rename_i hd
              split at h
              · rename_i hn; simp at h; subst h; rw [← EM.del_mem hd, ← EM.new_mem hn]; exact hk
              · simp at h
            · simp at h
          · simp at h
        · simp at h
      · simp at h
    · simp at h

def oCopy (B : List Nat) (m : EM) (sz : Nat) (d s : AV) : Option (AV × EM) :=
  match source m.mem sz s, d with
  | some (k, xs), .osl o sz' off n => if sz' = sz ∧ inB B o = false then (match m.mem o with
    | some (.cells cs) => if off + n * sz ≤ cs.length then (match m.set o (.cells (X.lay cs off (xs.take (min k n * sz)))) with
      | some m' => some (.int .i64 (min k n : Nat), m')
      | none => none) else none
    | _ => none) else none
  | _, _ => none
theorem oCopy_ok {B : List Nat} {m : EM} {sz : Nat} {d s : AV} {r : AV × EM} {K : AV → Mem → Prop} (h : oCopy B m sz d s = some r) (hk : K r.1 r.2.mem) : sCopy (· ∈ B) m.mem sz d s K := by
  unfold oCopy at h; unfold sCopy; split at h
  · rename_i hs
    simp only [hs]
    split at h
    · rename_i hc
      refine ⟨hc.1, inB_no hc.2, ?_⟩
      split at h
      · rename_i hm
        simp only [hm]
        split at h
        · refine ⟨‹_›, ?_⟩
          split at h
          · rename_i hn; simp at h; subst h; rw [← EM.set_mem hn]; exact hk
          · simp at h
        · simp at h
      · simp at h
    · simp at h
  · simp at h

def oClear (B : List Nat) (m : EM) (sz : Nat) (zero : List AV) (x : AV) : Option EM :=
  match x with
  | .sl _ 0 _ => some m
  | .osl o sz' off n => if n = 0 then some m else if sz' = sz ∧ inB B o = false then (match m.mem o with
    | some (.cells cs) => if off + n * sz ≤ cs.length then m.set o (.cells (X.lay cs off (rep n zero))) else none
    | _ => none) else none
  | _ => none
theorem oClear_ok {B : List Nat} {m m' : EM} {sz : Nat} {zero : List AV} {x : AV} {K : Mem → Prop} (h : oClear B m sz zero x = some m') (hk : K m'.mem) : sClear (· ∈ B) m.mem sz zero x K := by
  unfold oClear at h; unfold sClear; split at h
  · simp at h; subst h; exact hk
  · split at h
    · rename_i h0; simp only [h0, if_true]; simp at h; subst h; exact hk
    · rename_i h0; simp only [h0, if_false]
      split at h
      · rename_i hc
        refine ⟨hc.1, inB_no hc.2, ?_⟩
        split at h
        · rename_i hm
          simp only [hm]
          split at h
          · exact ⟨‹_›, by rw [← EM.set_mem h]; exact hk⟩
          · simp at h
        · simp at h
      · simp at h
  · simp at h

def oPick (c a b : AV) : Option AV :=
  match c with
  | .bool true => some a
  | .bool false => some b
  | _ => none
theorem oPick_ok {c a b v : AV} {K : AV → Prop} (h : oPick c a b = some v) (hk : K v) : sPick c a b K := by
  unfold oPick at h; unfold sPick; split at h <;> simp at h <;> subst h <;> simp [hk]

def oNilchk (x : AV) : Option AV :=
  match x with
  | .ptr o off => some (.ptr o off)
  | .sptr cs off => some (.sptr cs off)
  | .fn f a b => some (.fn f a b)
  | _ => none
theorem oNilchk_ok {x v : AV} {K : AV → Prop} (h : oNilchk x = some v) (hk : K v) : sNilchk x K := by
  unfold oNilchk at h; unfold sNilchk; split at h <;> simp at h <;> subst h <;> exact hk

def oNeg (ik : IntKind) (x : AV) : Option AV :=
  match x with
  | .int k1 a => if k1 = ik then oFit ik (0 - a) else none
  | _ => none
theorem oNeg_ok {ik : IntKind} {x v : AV} {K : AV → Prop} (h : oNeg ik x = some v) (hk : K v) : sNeg ik x K := by
  unfold oNeg at h; unfold sNeg; split at h
  · split at h
    · exact ⟨‹_›, oFit_ok h hk⟩
    · simp at h
  · simp at h

def oCompl (ik : IntKind) (x : AV) : Option AV :=
  match x with
  | .int k1 a => if k1 = ik then some (.int ik (bitsK .xor ik (if ik.signed then -1 else ik.max) a)) else none
  | _ => none
theorem oCompl_ok {ik : IntKind} {x v : AV} {K : AV → Prop} (h : oCompl ik x = some v) (hk : K v) : sCompl ik x K := by
  unfold oCompl at h; unfold sCompl; split at h
  · split at h
    · simp only [Option.some.injEq] at h; subst h; exact ⟨‹_›, hk⟩
    · simp at h
  · simp at h

def oNot (x : AV) : Option AV :=
  match x with
  | .bool b => some (.bool !b)
  | _ => none
theorem oNot_ok {x v : AV} {K : AV → Prop} (h : oNot x = some v) (hk : K v) : sNot x K := by
  unfold oNot at h; unfold sNot; split at h <;> simp at h; subst h; exact hk

def oCvtI (ik : IntKind) (x : AV) : Option AV :=
  match x with
  | .int _ a => some (.int ik (ik.wrap a))
  | _ => none
theorem oCvtI_ok {ik : IntKind} {x v : AV} {K : AV → Prop} (h : oCvtI ik x = some v) (hk : K v) : sCvtI ik x K := by
  unfold oCvtI at h; unfold sCvtI; split at h <;> simp at h; subst h; exact hk
def oCvtF (x : AV) : Option AV :=
  match x with
  | .int _ a => some (.f64 (FloatKind.f64.nearest a))
  | _ => none
theorem oCvtF_ok {x v : AV} {K : AV → Prop} (h : oCvtF x = some v) (hk : K v) : sCvtF x K := by
  unfold oCvtF at h; unfold sCvtF; split at h <;> simp at h; subst h; exact hk
def oCvtSS (x : AV) : Option AV :=
  match x with
  | .str l => some (.str l)
  | _ => none
theorem oCvtSS_ok {x v : AV} {K : AV → Prop} (h : oCvtSS x = some v) (hk : K v) : sCvtSS x K := by
  unfold oCvtSS at h; unfold sCvtSS; split at h <;> simp at h; subst h; exact hk
def oCvtSB (x : AV) : Option AV :=
  match x with
  | .str l => if l.length ≤ room then some (.sl .any l.length (bytesOf l)) else none
  | _ => none
theorem oCvtSB_ok {x v : AV} {K : AV → Prop} (h : oCvtSB x = some v) (hk : K v) : sCvtSB x K := by
  unfold oCvtSB at h; unfold sCvtSB; split at h
  · split at h
    · simp at h; subst h; exact ⟨‹_›, hk⟩
    · simp at h
  · simp at h

def unbytes : List AV → Option (List UInt8)
  | [] => some []
  | .int .u8 n :: l => if 0 ≤ n ∧ n < 256 then (match unbytes l with
    | some r => some (UInt8.ofNat n.toNat :: r)
    | none => none) else none
  | _ => none
theorem unbytes_ok : ∀ {cs : List AV} {l : List UInt8}, unbytes cs = some l → cs = bytesOf l
  | [], l, h => by simp [unbytes] at h; subst h; rfl
  | x :: cs, l, h => by
    unfold unbytes at h
    split at h
    · rename_i he; simp at he
    · rename_i n l' he
      simp at he; obtain ⟨rfl, rfl⟩ := he
      split at h
      · rename_i hc
        split at h
        · rename_i r hr
          simp at h; subst h
          have := unbytes_ok hr
          subst this
          have hn : ((UInt8.ofNat n.toNat).toNat : Int) = n := by
            rw [UInt8.toNat_ofNat']
            have : n.toNat % 2 ^ 8 = n.toNat := Nat.mod_eq_of_lt (by omega)
            omega
          simp only [bytesOf, List.map_cons, hn]
        · simp at h
      · simp at h
    · simp at h

def oCvtBS (m : Mem) (x : AV) : Option AV :=
  if x.isStr = false then (match source m 1 x with
  | some (_, cs) => (match unbytes cs with
    | some l => some (.str l)
    | none => none)
  | none => none) else none
theorem oCvtBS_ok {m : Mem} {x v : AV} {K : AV → Prop} (h : oCvtBS m x = some v) (hk : K v) : sCvtBS m x K := by
  unfold oCvtBS at h; unfold sCvtBS; split at h
  · refine ⟨‹_›, ?_⟩
    split at h
    · rename_i hs
      simp only [hs]
      split at h
      · rename_i l hl; simp at h; subst h; exact ⟨l, unbytes_ok hl, hk⟩
      · simp at h
    · simp at h
  · simp at h

def oMkslice (m : EM) (sz : Nat) (zero : List AV) (l c : AV) : Option (AV × EM) :=
  match l, c with
  | .int _ a, .int _ b => if 0 ≤ a ∧ a = b ∧ a ≤ room then (match m.new (.cells (rep a.toNat zero)) with
    | some m' => some (.osl m.nx sz 0 a.toNat, m')
    | none => none) else none
  | _, _ => none
theorem oMkslice_ok {m : EM} {sz : Nat} {zero : List AV} {l c : AV} {r : AV × EM} {K : AV → Mem → Prop} (h : oMkslice m sz zero l c = some r) (hk : K r.1 r.2.mem) : sMkslice m.mem sz zero l c K := by
  unfold oMkslice at h; unfold sMkslice; split at h
  · split at h
    · rename_i hc
      refine ⟨hc.1, hc.2.1, hc.2.2, ?_⟩
      split at h
      · rename_i hn; simp at h; subst h; rw [← EM.new_mem hn]; exact hk
      · simp at h
    · simp at h
  · simp at h

def oFieldAddr (off : Nat) (x : AV) : Option AV :=
  match x with
  | .ptr o a => some (.ptr o (a + off))
  | .sptr cs a => some (.sptr cs (a + off))
  | _ => none
theorem oFieldAddr_ok {off : Nat} {x v : AV} {K : AV → Prop} (h : oFieldAddr off x = some v) (hk : K v) : sFieldAddr off x K := by
  unfold oFieldAddr at h; unfold sFieldAddr; split at h <;> simp at h <;> subst h <;> exact hk

def oExtract (t : AV) (j : Nat) : Option AV :=
  match t with
  | .tup vs => vs[j]?
  | _ => none
theorem oExtract_ok {t v : AV} {j : Nat} {K : AV → Prop} (h : oExtract t j = some v) (hk : K v) : sExtract t j K := by
  unfold oExtract at h; unfold sExtract; split at h
  · simp only [h]; exact hk
  · simp at h

def oMax (x y : AV) : Option AV :=
  match x, y with
  | .int k1 a, .int _ b => some (.int k1 (if b > a then b else a))
  | _, _ => none
theorem oMax_ok {x y v : AV} {K : AV → Prop} (h : oMax x y = some v) (hk : K v) : sMax x y K := by
  unfold oMax at h; unfold sMax; split at h <;> simp only [Option.some.injEq, reduceCtorEq] at h; subst h; exact hk
def oMin (x y : AV) : Option AV :=
  match x, y with
  | .int k1 a, .int _ b => some (.int k1 (if b < a then b else a))
  | _, _ => none
theorem oMin_ok {x y v : AV} {K : AV → Prop} (h : oMin x y = some v) (hk : K v) : sMin x y K := by
  unfold oMin at h; unfold sMin; split at h <;> simp only [Option.some.injEq, reduceCtorEq] at h; subst h; exact hk

def oMark (m : Mem) (x : AV) : Option AV :=
  match x with
  | .osl o sz off n => (match m o with
    | some (.cells _) => some (.osl o sz off n)
    | _ => none)
  | _ => none
theorem oMark_ok {m : Mem} {x v : AV} {K : AV → Prop} (h : oMark m x = some v) (hk : K v) : sMark m x K := by
  unfold oMark at h; unfold sMark; split at h
  · split at h
    · rename_i hm; simp only [hm]; simp at h; subst h; exact hk
    · simp at h
  · simp at h

def oF64bits (x : AV) : Option AV :=
  match x with
  | .f64 b => some (.int .u64 b)
  | _ => none
theorem oF64bits_ok {x v : AV} {K : AV → Prop} (h : oF64bits x = some v) (hk : K v) : sF64bits x K := by
  unfold oF64bits at h; unfold sF64bits; split at h <;> simp only [Option.some.injEq, reduceCtorEq] at h; subst h; exact hk
def oF64from (x : AV) : Option AV :=
  match x with
  | .int .u64 b => if 0 ≤ b then some (.f64 b.toNat) else none
  | _ => none
theorem oF64from_ok {x v : AV} {K : AV → Prop} (h : oF64from x = some v) (hk : K v) : sF64from x K := by
  unfold oF64from at h; unfold sF64from; split at h
  · split at h
    · simp only [Option.some.injEq] at h; subst h; exact ⟨‹_›, hk⟩
    · simp at h
  · simp at h

def pair (m : EM) : Option AV → Option (AV × EM)
  | some v => some (v, m)
  | none => none
def jnk : Option EM → Option (AV × EM)
  | some m => some (.junk, m)
  | none => none

/-- An operation that calls nothing. -/
def execT : AI → List Nat → FL → EM → Option (AV × EM)
  | .mv x => fun B fr m => some (evL fr x, m)
  | .pick c a b => fun B fr m => pair m (oPick (evL fr c) (evL fr a) (evL fr b))
  | .alloc zero => fun B fr m => (match m.new (.cells zero) with | some m' => some (.ptr m.nx 0, m') | none => none)
  | .box x => fun B fr m => if (evL fr x).storable = true then (match m.new (.cells (evL fr x).cells) with | some m' => some (.ptr m.nx 0, m') | none => none) else none
  | .build zero parts => fun B fr m => (match oBuild fr zero parts with | some cs => some (.agg cs, m) | none => none)
  | .bslice sz len zero parts => fun B fr m => (match oBuild fr (rep len zero) parts with
    | some cs => (match m.new (.cells cs) with | some m' => some (.osl m.nx sz 0 len, m') | none => none)
    | none => none)
  | .load a => fun B fr m => pair m (oLoad m.mem (evL fr a))
  | .loadA sz a => fun B fr m => pair m (oLoadA m.mem sz (evL fr a))
  | .store sz a x => fun B fr m => jnk (oStore B m sz (evL fr a) (evL fr x))
  | .nilchk x => fun B fr m => pair m (oNilchk (evL fr x))
  | .binI fx op ik x y => fun B fr m => pair m (oBinI fx op ik (evL fr x) (evL fr y))
  | .binS op x y => fun B fr m => pair m (oBinS op (evL fr x) (evL fr y))
  | .binB neg x y => fun B fr m => pair m (oBinB neg (evL fr x) (evL fr y))
  | .binF op x y => fun B fr m => pair m (oBinF op (evL fr x) (evL fr y))
  | .eqNil k neg x y => fun B fr m => pair m (oEqNil k neg (evL fr x) (evL fr y))
  | .neg ik x => fun B fr m => pair m (oNeg ik (evL fr x))
  | .compl ik x => fun B fr m => pair m (oCompl ik (evL fr x))
  | .not x => fun B fr m => pair m (oNot (evL fr x))
  | .cvtI ik x => fun B fr m => pair m (oCvtI ik (evL fr x))
  | .cvtF x => fun B fr m => pair m (oCvtF (evL fr x))
  | .cvtSS x => fun B fr m => pair m (oCvtSS (evL fr x))
  | .cvtSB x => fun B fr m => pair m (oCvtSB (evL fr x))
  | .cvtBS x => fun B fr m => pair m (oCvtBS m.mem (evL fr x))
  | .mkfn f fst caps => fun B fr m => some (.fn f (fst.map (evL fr)) (caps.map (evL fr)), m)
  | .mkmap ik => fun B fr m => (match m.new (.map ik [] 0) with | some m' => some (.mp m.nx, m') | none => none)
  | .mkslice sz _ zero l c => fun B fr m => oMkslice m sz zero (evL fr l) (evL fr c)
  | .slice sz x lo hi mx => fun B fr m => pair m (oSlice sz (evL fr x) (lo.map (evL fr)) (hi.map (evL fr)) (mx.map (evL fr)))
  | .sliceS x lo hi => fun B fr m => pair m (oSliceS (evL fr x) (lo.map (evL fr)) (hi.map (evL fr)))
  | .sliceA sz n x lo hi => fun B fr m => pair m (oSliceA m.mem sz n (evL fr x) (lo.map (evL fr)) (hi.map (evL fr)))
  | .fieldAddr off x => fun B fr m => pair m (oFieldAddr off (evL fr x))
  | .field off sz x => fun B fr m => pair m (oField off sz (evL fr x))
  | .idxA sz n x j => fun B fr m => pair m (oIdxA sz n (evL fr x) (evL fr j))
  | .idxS sz x j => fun B fr m => pair m (oIdxS sz (evL fr x) (evL fr j))
  | .index sz esz n x j => fun B fr m => pair m (oIndex sz esz n (evL fr x) (evL fr j))
  | .indexS x j => fun B fr m => pair m (oIndexS (evL fr x) (evL fr j))
  | .lookup ik ok zero x y => fun B fr m => pair m (oLookup m.mem ik ok zero (evL fr x) (evL fr y))
  | .mupd ik x y v => fun B fr m => jnk (oMupd B m ik (evL fr x) (evL fr y) (evL fr v))
  | .extract t j => fun B fr m => pair m (oExtract (evL fr t) j)
  | .lenS x => fun B fr m => pair m (oLenS (evL fr x))
  | .len x => fun B fr m => pair m (oLen (evL fr x))
  | .lenM x => fun B fr m => pair m (oLenM m.mem (evL fr x))
  | .lenC n => fun B fr m => some (.int .i64 n, m)
  | .app sz _ s x => fun B fr m => oApp B m sz (evL fr s) (evL fr x)
  | .copy sz d s => fun B fr m => oCopy B m sz (evL fr d) (evL fr s)
  | .del ik x y => fun B fr m => jnk (oDel B m ik (evL fr x) (evL fr y))
  | .clear sz zero x => fun B fr m => jnk (oClear B m sz zero (evL fr x))
  | .maxI x y => fun B fr m => pair m (oMax (evL fr x) (evL fr y))
  | .minI x y => fun B fr m => pair m (oMin (evL fr x) (evL fr y))
  | .iface t x => fun B fr m => some (.ifc t (evL fr x), m)
  | .mark x => fun B fr m => pair m (oMark m.mem (evL fr x))
  | .f64bits x => fun B fr m => pair m (oF64bits (evL fr x))
  | .f64from x => fun B fr m => pair m (oF64from (evL fr x))
  | _ => fun _ _ _ => none
def execI (B : List Nat) (i : AI) (fr : FL) (m : EM) : Option (AV × EM) := execT i B fr m

theorem pair_some {m : EM} {x : Option AV} {v : AV} {m' : EM} (h : pair m x = some (v, m')) : x = some v ∧ m' = m := by
  cases x <;> simp [pair] at h
  exact ⟨by rw [h.1], h.2.symm⟩
theorem jnk_some {x : Option EM} {v : AV} {m' : EM} (h : jnk x = some (v, m')) : x = some m' ∧ v = .junk := by
  cases x <;> simp [jnk] at h
  exact ⟨by rw [h.2], h.1.symm⟩

theorem ev_map (fr : FL) (x : Option Opd) : x.map (·.ev (frT fr)) = x.map (evL fr) := by cases x <;> simp [evL_eq]
theorem ev_maps (fr : FL) (x : List Opd) : x.map (·.ev (frT fr)) = x.map (evL fr) := by simp [evL_eq]

theorem execI_ok {C : CallP} {B : List Nat} {i : AI} {fr : FL} {m m' : EM} {v : AV} {K : AV → Mem → Prop} {E : List PanicEntry → Mem → Prop}
    (h : execI B i fr m = some (v, m')) (hk : K v m'.mem) : stepI C (· ∈ B) i (frT fr) m.mem K E := by
  cases i <;> simp only [execI, execT, stepI, evL_eq, ev_map, ev_maps] at h ⊢
  case mv => simp at h; obtain ⟨rfl, rfl⟩ := h; exact hk
  case mkfn => simp only [Option.some.injEq, Prod.mk.injEq] at h; obtain ⟨rfl, rfl⟩ := h; exact hk
  case iface => simp only [Option.some.injEq, Prod.mk.injEq] at h; obtain ⟨rfl, rfl⟩ := h; exact hk
  case lenC => simp only [Option.some.injEq, Prod.mk.injEq] at h; obtain ⟨rfl, rfl⟩ := h; exact hk
  case alloc => split at h <;> simp at h; obtain ⟨rfl, rfl⟩ := h; rename_i hn; rw [← EM.new_mem hn]; exact hk
  case mkmap => split at h <;> simp at h; obtain ⟨rfl, rfl⟩ := h; rename_i hn; rw [← EM.new_mem hn]; exact hk
  case box =>
    split at h
    · refine ⟨‹_›, ?_⟩
      split at h <;> simp at h; obtain ⟨rfl, rfl⟩ := h; rename_i hn; rw [← EM.new_mem hn]; exact hk
    · simp at h
  case build =>
    split at h <;> simp at h
    rename_i hb; obtain ⟨rfl, rfl⟩ := h
    exact oBuild_ok hb hk
  case bslice =>
    split at h
    · rename_i hb
      refine oBuild_ok hb ?_
      split at h <;> simp at h; obtain ⟨rfl, rfl⟩ := h; rename_i hn; rw [← EM.new_mem hn]; exact hk
    · simp at h
  case store => obtain ⟨h2, rfl⟩ := jnk_some h; exact oStore_ok h2 hk
  case mupd => obtain ⟨h2, rfl⟩ := jnk_some h; exact oMupd_ok h2 hk
  case del => obtain ⟨h2, rfl⟩ := jnk_some h; exact oDel_ok h2 hk
  case clear => obtain ⟨h2, rfl⟩ := jnk_some h; exact oClear_ok h2 hk
  case app => exact oApp_ok h hk
  case copy => exact oCopy_ok h hk
  case mkslice => exact oMkslice_ok h hk
  case pick => obtain ⟨h2, rfl⟩ := pair_some h; exact oPick_ok h2 hk
  case load => obtain ⟨h2, rfl⟩ := pair_some h; exact oLoad_ok h2 hk
  case loadA => obtain ⟨h2, rfl⟩ := pair_some h; exact oLoadA_ok h2 hk
  case nilchk => obtain ⟨h2, rfl⟩ := pair_some h; exact oNilchk_ok h2 hk
  case binI => obtain ⟨h2, rfl⟩ := pair_some h; exact oBinI_ok h2 hk
  case binS => obtain ⟨h2, rfl⟩ := pair_some h; exact oBinS_ok h2 hk
  case binB => obtain ⟨h2, rfl⟩ := pair_some h; exact oBinB_ok h2 hk
  case binF => obtain ⟨h2, rfl⟩ := pair_some h; exact oBinF_ok h2 hk
  case eqNil => obtain ⟨h2, rfl⟩ := pair_some h; exact oEqNil_ok h2 hk
  case neg => obtain ⟨h2, rfl⟩ := pair_some h; exact oNeg_ok h2 hk
  case compl => obtain ⟨h2, rfl⟩ := pair_some h; exact oCompl_ok h2 hk
  case not => obtain ⟨h2, rfl⟩ := pair_some h; exact oNot_ok h2 hk
  case cvtI => obtain ⟨h2, rfl⟩ := pair_some h; exact oCvtI_ok h2 hk
  case cvtF => obtain ⟨h2, rfl⟩ := pair_some h; exact oCvtF_ok h2 hk
  case cvtSS => obtain ⟨h2, rfl⟩ := pair_some h; exact oCvtSS_ok h2 hk
  case cvtSB => obtain ⟨h2, rfl⟩ := pair_some h; exact oCvtSB_ok h2 hk
  case cvtBS => obtain ⟨h2, rfl⟩ := pair_some h; exact oCvtBS_ok h2 hk
  case slice => obtain ⟨h2, rfl⟩ := pair_some h; exact oSlice_ok h2 hk
  case sliceS => obtain ⟨h2, rfl⟩ := pair_some h; exact oSliceS_ok h2 hk
  case sliceA => obtain ⟨h2, rfl⟩ := pair_some h; exact oSliceA_ok h2 hk
  case fieldAddr => obtain ⟨h2, rfl⟩ := pair_some h; exact oFieldAddr_ok h2 hk
  case field => obtain ⟨h2, rfl⟩ := pair_some h; exact oField_ok h2 hk
  case idxA => obtain ⟨h2, rfl⟩ := pair_some h; exact oIdxA_ok h2 hk
  case idxS => obtain ⟨h2, rfl⟩ := pair_some h; exact oIdxS_ok h2 hk
  case index => obtain ⟨h2, rfl⟩ := pair_some h; exact oIndex_ok h2 hk
  case indexS => obtain ⟨h2, rfl⟩ := pair_some h; exact oIndexS_ok h2 hk
  case lookup => obtain ⟨h2, rfl⟩ := pair_some h; exact oLookup_ok h2 hk
  case extract => obtain ⟨h2, rfl⟩ := pair_some h; exact oExtract_ok h2 hk
  case lenS => obtain ⟨h2, rfl⟩ := pair_some h; exact oLenS_ok h2 hk
  case len => obtain ⟨h2, rfl⟩ := pair_some h; exact oLen_ok h2 hk
  case lenM => obtain ⟨h2, rfl⟩ := pair_some h; exact oLenM_ok h2 hk
  case maxI => obtain ⟨h2, rfl⟩ := pair_some h; exact oMax_ok h2 hk
  case minI => obtain ⟨h2, rfl⟩ := pair_some h; exact oMin_ok h2 hk
  case mark => obtain ⟨h2, rfl⟩ := pair_some h; exact oMark_ok h2 hk
  case f64bits => obtain ⟨h2, rfl⟩ := pair_some h; exact oF64bits_ok h2 hk
  case f64from => obtain ⟨h2, rfl⟩ := pair_some h; exact oF64from_ok h2 hk
  all_goals simp at h

end
end Go.X
