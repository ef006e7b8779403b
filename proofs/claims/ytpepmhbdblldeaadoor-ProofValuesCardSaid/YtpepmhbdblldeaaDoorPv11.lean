import Derived.Test.YtpepmhbdblldeaaDoorPv10
namespace Go.Am
set_option linter.unusedVariables false
set_option linter.unusedSimpArgs false
def u8 (x : BitVec 8) : Value := .int .u8 (x.toNat : Int)
def u16 (x : BitVec 16) : Value := .int .u16 (x.toNat : Int)
def u32 (x : BitVec 32) : Value := .int .u32 (x.toNat : Int)
def u64 (x : BitVec 64) : Value := .int .u64 (x.toNat : Int)
def it (n : Int) : Value := .int .i64 n
def wz (n : Int) : Int := IntKind.i64.wrap n
theorem wz_id {n : Int} (h : -9223372036854775808 ≤ n ∧ n < 9223372036854775808) : wz n = n := by
 unfold wz IntKind.wrap
 have e1 : (2 : Int) ^ IntKind.i64.bits = 18446744073709551616 := by decide
 have e2 : (2 : Int) ^ (IntKind.i64.bits - 1) = 9223372036854775808 := by decide
 simp only [e1, e2]
 rcases Int.lt_or_le n 0 with h0 | h0
 ·have : n % 18446744073709551616 = n + 18446744073709551616 := by omega
  rw [this, if_pos (by simp [IntKind.signed]; omega)]
  omega
 ·have : n % 18446744073709551616 = n := by omega
  rw [this, if_neg (by simp [IntKind.signed]; omega)]
def asMp : D → Option Nat
 | .mp r => some r
 | _ => none
def asRaw : D → Option Value
 | .raw v => some v
 | _ => none
def mres (ok : Bool) (z : D) : Option Value → D
 | some v => bif ok then .tup [.raw v, .raw (.bool true)] else .raw v
 | none => bif ok then .tup [z, .raw (.bool false)] else z
def asIt : D → Option Int
 | .raw (.int .i64 n) => some n
 | _ => none
def asI : D → Option Int
 | .raw (.int _ n) => some n
 | _ => none
def cvD (kd : IntKind) : D → Option Value
 | .raw (.int _ n) => some (.int kd (kd.wrap n))
 | _ => none
def kSeq (C : Ctx) (b : ACode) (Q : AExit → Env → Rows → Prop) : AExit → Env → Rows → Prop := fun e env rows => match e with
 | .normal => aw C b Q env rows
 | e => Q e env rows
def kBlk (id : Nat) (Q : AExit → Env → Rows → Prop) : AExit → Env → Rows → Prop := fun e env rows => match e with
 | .exit i => (i = id → Q .normal env rows) ∧ (i ≠ id → Q (.exit i) env rows)
 | e => Q e env rows
def kCond (C : Ctx) (a b : ACode) (Q : AExit → Env → Rows → Prop) (env : Env) (rows : Rows) : D → Prop
 | .raw (.bool t) => (t = true → aw C a Q env rows) ∧ (t = false → aw C b Q env rows)
 | _ => False
def kGd (C : Ctx) (dst : Option Nat) (o : AOp) (want : Bool) (os : List AOper) (env : Env) (rows : Rows) (K : Env → Rows → Prop) : D → Prop
 | .raw (.bool t) => (t = want → aop C env rows o fun d rows => aops C os (put dst d env) rows K) ∧ (t = !want → aops C os (put dst (.tup []) env) rows K)
 | .tup [] => aops C os (put dst (.tup []) env) rows K
 | _ => False
def kOp (C : Ctx) (dst : Option Nat) (os : List AOper) (env : Env) (K : Env → Rows → Prop) : D → Rows → Prop := fun d rows => aops C os (put dst d env) rows K
def kPick (C : Ctx) (a b : X) (env : Env) (rows : Rows) (k : D → Rows → Prop) : D → Prop
 | .raw (.bool t) => bnd (bif t then ev C env a else ev C env b) fun d => k d rows
 | _ => False
def kCall (A : Fn) (rows : Rows) (k : D → Rows → Prop) (ds : List D) : Prop :=
 (hasRefL ds = true → bnd (mapO (view rows 9) ds) fun ds' => bnd (A ds' []) fun r => (noLst r.1 && noLstRows r.2) = true ∧ k (shift rows.length r.1) (rows ++ shiftRows rows.length r.2)) ∧
   (hasRefL ds = false → bnd (A ds []) fun r => k (shift rows.length r.1) (rows ++ shiftRows rows.length r.2))
def kFn (C : Ctx) (rows : Rows) (f : FuncId) (k : D → Rows → Prop) : Option Fn → List D → Prop
 | some A, ds => kCall A rows k ds
 | none, ds => bnd (C.fnrq f) fun A => A ds rows k
theorem kFn_congr {C rows f k} {o o' : Option Fn} {d d' : List D} (h : o = o') (h2 : d = d') : kFn C rows f k o d = kFn C rows f k o' d' := by rw [h, h2]
def nilB : D → D → Option Bool
 | .raw (.pointer none), .raw (.pointer none) => some true
 | .ptr _ _ _, .raw (.pointer none) => some false
 | .cptr _, .raw (.pointer none) => some false
 | _, _ => none
def eqA (s : Sh) : D → D → Option Bool
 | .agg s1 l, .agg s2 l' => bif s1 == s && s2 == s then eqL l l' else none
 | _, _ => none
def kTail (C : Ctx) (tl : List AOper) (K : Env → Rows → Prop) : Env → Rows → Prop := fun env rows => aops C tl env rows K
def kStab (C : Ctx) (dl : List AOper) (K : Env → Rows → Prop) : Env → Rows → Prop := fun env rows => stabs C env rows dl ∧ K env rows
def kSt1 (env : Env) (rows : Rows) (t : Nat) : D → Rows → Prop := fun d r => look env t = some d ∧ r = rows
def kStabF (C : Ctx) (dl : List AOper) (K : Env → Rows → Prop) : Env → Rows → Prop := fun env rows => stabsF C env rows dl ∧ K env rows
def kIntF (C : Ctx) (fl dl : List AOper) (K : Env → Rows → Prop) : Env → Rows → Prop := fun env rows => aops C fl env rows (kStabF C dl K)
def kSlF (env : Env) (rows : Rows) (s : Sh) (n t : Nat) (l : List D) : Prop := bnd (look env t) (isSl s n l rows)
def inD (rows : Rows) (ds : List D) : Option (List D) := bif hasRefL ds then mapO (view rows 9) ds else some ds
def kIdx (s : Sh) (n : Int) (rows : Rows) (k : D → Rows → Prop) : D → Prop
 | .sl t r p off len _ => t = s ∧ 0 ≤ n ∧ n < (len : Int) ∧ k (.ptr s r (p ++ [off + n.toNat])) rows
 | .lst t l _ => t = s ∧ 0 ≤ n ∧ n < (l.length : Int) ∧ bnd (l[n.toNat]?) fun d => k (.cptr d) rows
 | _ => False
def kSlice (s : Sh) (l h c : Option Int) (rows : Rows) (k : D → Rows → Prop) (dx : D) : Prop :=
 bnd (slen dx) fun n => aBounds (l.getD 0) (h.getD n) (c.getD (h.getD n)) n fun l h' c' => match dx with
    | .raw (.slice none 0 0) => k (.raw (.slice none 0 0)) rows
    | .sl t r p off len e => t = s ∧ k (.sl s r p (off + l) (h' - l) (exOf c h' c' len e)) rows
    | .lst t els e => t = s ∧ k (.lst s ((els.drop l).take (h' - l)) (exOf c h' c' els.length e)) rows
    | _ => False
def kFin (res : List ARes) (K : D → Rows → Prop) : AExit → Env → Rows → Prop := fun e env rows => (e = .normal ∨ e = .ret) ∧ bnd (ares env rows res) fun l => K (resOf l) rows
theorem afun_mk {C : Ctx} {np : Nat} {res : List ARes} {ac : ACode} {ds : List D} {rows : Rows} {K : D → Rows → Prop} (h1 : ds.length = np) (h2 : aw C ac (kFin res K) (zipEnv 0 ds) rows) : afun C np res ac ds rows K := ⟨h1, h2⟩
def nTup : D → Option D
 | .tup _ => none
 | d => some d
def kLoop (C : Ctx) (a : ACode) (Q : AExit → Env → Rows → Prop) (env : Env) (rows : Rows) : Prop := ∃ n, loopN (aw C a) Q n env rows
theorem bnd_congr {α : Type} {x y : Option α} {k : α → Prop} (h : x = y) : bnd x k = bnd y k := by rw [h]
theorem kCond_congr {C a b Q env rows} {d d' : D} (h : d = d') : kCond C a b Q env rows d = kCond C a b Q env rows d' := by rw [h]
theorem kGd_congr {C dst o want os env rows K} {d d' : D} (h : d = d') : kGd C dst o want os env rows K d = kGd C dst o want os env rows K d' := by rw [h]
theorem kPick_congr {C a b env rows k} {d d' : D} (h : d = d') : kPick C a b env rows k d = kPick C a b env rows k d' := by rw [h]
theorem kCall_congr {A rows k} {d d' : List D} (h : d = d') : kCall A rows k d = kCall A rows k d' := by rw [h]
theorem kIdx_congr {s} {n n' : Int} {rows rows' : Rows} {k} {d d' : D} (h1 : n = n') (h2 : rows = rows') (h3 : d = d') : kIdx s n rows k d = kIdx s n' rows' k d' := by rw [h1, h2, h3]
theorem kSlice_congr {s} {l l' h h' c c' : Option Int} {rows rows' : Rows} {k} {d d' : D} (h0 : l = l') (h1 : h = h') (hc : c = c') (h2 : rows = rows') (h3 : d = d') : kSlice s l h c rows k d = kSlice s l' h' c' rows' k d' := by rw [h0, h1, hc, h2, h3]
theorem kLoop_congr {C a Q env env'} {rows rows' : Rows} (h : env = env') (h' : rows = rows') : kLoop C a Q env rows = kLoop C a Q env' rows' := by rw [h, h']
theorem cond_congr' {α : Type} {c d : Bool} {a b : α} (h : c = d) : cond c a b = cond d a b := by rw [h]
theorem aBin_congr {op} {a a' b b' : Value} {k} (h : a = a') (h2 : b = b') : aBin op a b k = aBin op a' b' k := by rw [h, h2]
theorem aBounds_congr {l l' h h' m m' : Int} {n n' : Nat} {k} (h1 : l = l') (h2 : h = h') (h3 : m = m') (h4 : n = n') : aBounds l h m n k = aBounds l' h' m' n' k := by rw [h1, h2, h3, h4]
theorem aApp_congr {rows rows' : Rows} {s bytes} {a a' : D} {l l' : List D} {k} (h1 : rows = rows') (h2 : a = a') (h3 : l = l') : aApp rows s bytes a l k = aApp rows' s bytes a' l' k := by rw [h1, h2, h3]
theorem aCopy_congr {rows rows' : Rows} {s} {a a' : D} {l l' : List D} {k} (h1 : rows = rows') (h2 : a = a') (h3 : l = l') : aCopy rows s a l k = aCopy rows' s a' l' k := by rw [h1, h2, h3]
def gD (c : Bool) (d : D) : D := bif c then d else .tup []
theorem gD_t (d : D) : gD true d = d := Eq.trans rfl rfl
theorem gD_f (d : D) : gD false d = .tup [] := Eq.trans rfl rfl
def pkO (t : Bool) (x y : Option D) : Option D := bif t then x else y
theorem pk_or (t x : Bool) : pkO t (some (.raw (.bool true))) (some (gD (!t) (.raw (.bool x)))) = some (.raw (.bool (t || x))) := by cases t <;> rfl
theorem pk_and (t x : Bool) : pkO t (some (gD t (.raw (.bool x)))) (some (.raw (.bool false))) = some (.raw (.bool (t && x))) := by cases t <;> rfl
section eqs
variable (C : Ctx) (env : Env) (rows : Rows) (Q : AExit → Env → Rows → Prop) (k : D → Rows → Prop) (K : Env → Rows → Prop)
theorem q_skip  : aw C .skip Q env rows = Q .normal env rows := Eq.trans rfl rfl
theorem q_region (ops) : aw C (.region false ops) Q env rows = aops C ops env rows (Q .normal) := Eq.trans rfl rfl
theorem q_regiond (ops) : aw C (.region true ops) Q env rows = aops C.quiet ops env rows (Q .normal) := Eq.trans rfl rfl
theorem q_draw1 (pre tail) : aw C (.draw1 pre tail) Q env rows = aops C.quiet pre env rows (kTail C tail (Q .normal)) := Eq.trans rfl rfl
theorem q_draw (pre dl tail) : aw C (.draw pre dl tail) Q env rows = aops C.quiet pre env rows (kStab C.quiet dl fun env rows => aopsT C.quiet tail env rows (Q .normal)) := Eq.trans rfl rfl
theorem q_tail (tl) : kTail C tl K env rows = aops C tl env rows K := Eq.trans rfl rfl
theorem q_stab (dl) : kStab C dl K env rows = (stabs C env rows dl ∧ K env rows) := Eq.trans rfl rfl
theorem q_st0  : stabs C env rows [] = True := Eq.trans rfl rfl
theorem q_st1 (t o g l) : stabs C env rows (⟨some t, o, g⟩ :: l) = (aop C env rows o (kSt1 env rows t) ∧ stabs C env rows l) := by
 simp only [stabs]
 congr 1
theorem q_st2 (t d r) : kSt1 env rows t d r = (look env t = some d ∧ r = rows) := Eq.trans rfl rfl
theorem q_ta0  : aopsT C [] env rows K = K env rows := Eq.trans rfl rfl
theorem q_ta1 (x dl l) : aopsT C ((x, dl) :: l) env rows K = aops C [x] env rows (kStab C dl fun env rows => aopsT C l env rows K) := Eq.trans rfl rfl
theorem q_drawf (pre dl tail) : aw C (.drawf pre dl tail) Q env rows = aops C.quiet pre env rows (kStabF C.quiet dl fun env rows => aopsF C tail env rows (Q .normal)) := Eq.trans rfl rfl
theorem q_stabF (dl) : kStabF C dl K env rows = (stabsF C env rows dl ∧ K env rows) := Eq.trans rfl rfl
theorem q_intF (fl dl) : kIntF C fl dl K env rows = aops C fl env rows (kStabF C dl K) := Eq.trans rfl rfl
theorem q_sf0  : stabsF C env rows [] = True := Eq.trans rfl rfl
theorem q_sf1 (t o g l) : stabsF C env rows (⟨some t, o, g⟩ :: l) = (stabF1 C env rows o t ∧ stabsF C env rows l) := Eq.trans rfl rfl
theorem q_sfa (s z t) : stabF1 C env rows (.alloc s z) t = bnd (look env t) (isPtr s [z] rows) := Eq.trans rfl rfl
theorem q_sfb (s n z ps t) : stabF1 C env rows (.bslice s n z ps) t = bnd (fillP C env (Sh.ar n s).sub ps (List.replicate n z)) (kSlF env rows s n t) := Eq.trans rfl rfl
theorem q_sfm (x t) : stabF1 C env rows (.mv x) t = aop C env rows (.mv x) (kSt1 env rows t) := by
 simp only [stabF1]
 congr 1
theorem q_sfl (s x t) : stabF1 C env rows (.load s x) t = aop C env rows (.load s x) (kSt1 env rows t) := by
 simp only [stabF1]
 congr 1
theorem q_sfe (x i t) : stabF1 C env rows (.ext x i) t = aop C env rows (.ext x i) (kSt1 env rows t) := by
 simp only [stabF1]
 congr 1
theorem q_sff (s x i t) : stabF1 C env rows (.faddr s x i) t = aop C env rows (.faddr s x i) (kSt1 env rows t) := by
 simp only [stabF1]
 congr 1
theorem q_slf (s n t l) : kSlF env rows s n t l = bnd (look env t) (isSl s n l rows) := Eq.trans rfl rfl
theorem q_isp (s l s' r p) : isPtr s l rows (.ptr s' r p) = (s' = s ∧ p = [0] ∧ live rows r = some ⟨s, l⟩) := Eq.trans rfl rfl
theorem q_isl (s n l s' r p off len ex) : isSl s n l rows (.sl s' r p off len ex) = (s' = s ∧ p = [] ∧ off = 0 ∧ len = n ∧ ex = true ∧ live rows r = some ⟨s, l⟩) := Eq.trans rfl rfl
theorem q_tf0  : aopsF C [] env rows K = K env rows := Eq.trans rfl rfl
theorem q_tf1 (x fl dl l) : aopsF C ((x, fl, dl) :: l) env rows K = aops C [x] env rows (kIntF C.quiet fl dl fun env rows => aopsF C l env rows K) := Eq.trans rfl rfl
theorem q_qfn (f) : C.quiet.fn f = C.fn f := Eq.trans rfl rfl
theorem q_qgl (f) : C.quiet.glob f = C.glob f := Eq.trans rfl rfl
theorem q_seq (a b) : aw C (.seq a b) Q env rows = aw C a (kSeq C b Q) env rows := Eq.trans rfl rfl
theorem q_cond (c a b) : aw C (.cond c a b) Q env rows = bnd (ev C env c) (kCond C a b Q env rows) := Eq.trans rfl rfl
theorem q_block (id a) : aw C (.block id a) Q env rows = aw C a (kBlk id Q) env rows := Eq.trans rfl rfl
theorem q_loop (a) : aw C (.loop a) Q env rows = kLoop C a Q env rows := Eq.trans rfl rfl
theorem q_exit (id) : aw C (.exit id) Q env rows = Q (.exit id) env rows := Eq.trans rfl rfl
theorem q_ret  : aw C .ret Q env rows = Q .ret env rows := Eq.trans rfl rfl
theorem q_fr (res) (R : D → Rows → Prop) : kFin res R .ret env rows = bnd (ares env rows res) fun l => R (resOf l) rows := by simp [kFin]
theorem q_fn (res) (R : D → Rows → Prop) : kFin res R .normal env rows = bnd (ares env rows res) fun l => R (resOf l) rows := by simp [kFin]
theorem q_a0  : ares env rows [] = some [] := Eq.trans rfl rfl
theorem q_a1 (r l) : ares env rows (r :: l) = (ares1 env rows r).bind fun d => (ares env rows l).map fun ds => d :: ds := by
 simp only [ares]
 cases ares1 env rows r with
 | none => rfl
 | some d => cases ares env rows l <;> rfl
theorem q_at (t) : ares1 env rows (.tmp t) = (look env t).bind nTup := by
 simp only [ares1]
 cases look env t with
 | none => rfl
 | some d => cases d <;> rfl
theorem q_ac (t s) : ares1 env rows (.cell t s) = match look env t with
  | some (.ptr s' r p) => bif s' == s then (match live rows r with
   | some row => rowGet row.els p
   | none => none) else none
  | _ => none := Eq.trans rfl rfl
theorem n_raw (v) : nTup (.raw v) = some (.raw v) := Eq.trans rfl rfl
theorem n_ptr (s r p) : nTup (.ptr s r p) = some (.ptr s r p) := Eq.trans rfl rfl
theorem n_sl (s r p o n e) : nTup (.sl s r p o n e) = some (.sl s r p o n e) := Eq.trans rfl rfl
theorem n_lst (s l e) : nTup (.lst s l e) = some (.lst s l e) := Eq.trans rfl rfl
theorem n_cptr (d) : nTup (.cptr d) = some (.cptr d) := Eq.trans rfl rfl
theorem n_agg (s l) : nTup (.agg s l) = some (.agg s l) := Eq.trans rfl rfl
theorem q_r1 (d) : resOf [d] = d := Eq.trans rfl rfl
theorem q_r0  : resOf [] = .tup [] := Eq.trans rfl rfl
theorem q_r2 (d e l) : resOf (d :: e :: l) = .tup (d :: e :: l) := Eq.trans rfl rfl
theorem sl_sl (s r p o n e) : slen (.sl s r p o n e) = some n := Eq.trans rfl rfl
theorem sl_lst (s l e) : slen (.lst s l e) = some l.length := Eq.trans rfl rfl
theorem sl_nil  : slen (.raw (.slice none 0 0)) = some 0 := Eq.trans rfl rfl
theorem so_str (b) : srcOf rows (.leaf (.int .u8)) (.raw (.string b)) = some (ofBytes b) := by simp [srcOf]
theorem so_sl (s t r p o n e) : srcOf rows s (.sl t r p o n e) = bif s == t then elems rows (.sl t r p o n e) else none := Eq.trans rfl rfl
theorem so_lst (s t l e) : srcOf rows s (.lst t l e) = bif s == t then some l else none := Eq.trans rfl rfl
theorem so_nil (s) : srcOf rows s (.raw (.slice none 0 0)) = some [] := Eq.trans rfl rfl
theorem el_sl (s r off len e) : elems rows (.sl s r [] off len e) = (live rows r).map fun row => (row.els.drop off).take len := by simp only [elems]; cases live rows r <;> rfl
theorem el_lst (s l e) : elems rows (.lst s l e) = some l := Eq.trans rfl rfl
theorem el_nil  : elems rows (.raw (.slice none 0 0)) = some [] := Eq.trans rfl rfl
theorem lv_0 (row) : live (some row :: rows) 0 = some row := Eq.trans rfl rfl
theorem lv_s (x n) : live (x :: rows) (n + 1) = live rows n := by simp [live]
theorem lv_new (row) : live (rows ++ [some row]) rows.length = some row := by simp [live]
theorem g_row (els : List D) (i p) : rowGet els (i :: p) = (els[i]?).bind fun d => d.get p := by simp only [rowGet]; cases els[i]? <;> rfl
theorem g_nil (d) : D.get d [] = some d := by cases d <;> rfl
theorem g_agg (s) (l : List D) (i p) : D.get (.agg s l) (i :: p) = (l[i]?).bind fun d => d.get p := by simp only [D.get]; cases l[i]? <;> rfl
theorem s_row (els : List D) (i p x) : rowSet els (i :: p) x = (els[i]?).bind fun d => (d.set p x).map fun d' => els.set i d' := by
 simp only [rowSet]
 cases els[i]? with
 | none => rfl
 | some d =>
  simp only [Option.bind_some]
  cases D.set d p x <;> rfl
theorem s_nil (d x) : D.set d [] x = some x := by cases d <;> rfl
theorem s_agg (s) (l : List D) (i p x) : D.set (.agg s l) (i :: p) x = (l[i]?).bind fun d => (d.set p x).map fun d' => .agg s (l.set i d') := by
 simp only [D.set]
 cases l[i]? with
 | none => rfl
 | some d =>
  simp only [Option.bind_some]
  cases D.set d p x <;> rfl
theorem sub_0 (a b) : (Sh.cons a b).sub 0 = some a := Eq.trans rfl rfl
theorem sub_s (a b i) : (Sh.cons a b).sub (i + 1) = b.sub i := Eq.trans rfl rfl
theorem sub_ar (n s i) : (Sh.ar n s).sub i = if i < n then some s else none := Eq.trans rfl rfl
theorem a_nil (s bytes) (news : List D) : aApp rows s bytes (.raw (.slice none 0 0)) news k = (news.length * bytes ≤ most ∧ news.length ≤ most ∧ k (.sl s rows.length [] 0 news.length false) (rows ++ [some ⟨s, news⟩])) := by simp [aApp, elems, slen, bnd, sshape, isNil, kill]
theorem a_sl (s bytes t r n e) (news : List D) : aApp rows s bytes (.sl t r [] 0 n e) news k = bnd (live rows r) fun row => (s == t) = true ∧ (row.els.take n).length = n ∧ (n + news.length) * bytes ≤ most ∧ n + news.length ≤ most ∧ k (.sl s rows.length [] 0 (n + news.length) false) (rows.set r none ++ [some ⟨s, row.els.take n ++ news⟩]) := by
 simp only [aApp, elems, slen, sshape, isNil, owned, kill]
 cases live rows r <;> simp [bnd]
theorem most_eq : most = 1099511627776 := rfl
theorem q_bd (l h m : Int) (n : Nat) (kk : Nat → Nat → Nat → Prop) : aBounds l h m n kk = (0 ≤ l ∧ l ≤ h ∧ h ≤ m ∧ m ≤ (n : Int) ∧ kk l.toNat h.toNat m.toNat) := Eq.trans rfl rfl
theorem q_skl (s l h c t els e) : kSlice s l h c rows k (.lst t els e) = aBounds (l.getD 0) (h.getD els.length) (c.getD (h.getD els.length)) els.length fun l h' c' => t = s ∧ k (.lst s ((els.drop l).take (h' - l)) (exOf c h' c' els.length e)) rows := Eq.trans rfl rfl
theorem q_sks (s l h c t r p off) (n : Nat) (e) : kSlice s l h c rows k (.sl t r p off n e) = aBounds (l.getD 0) (h.getD n) (c.getD (h.getD n)) n fun l h' c' => t = s ∧ k (.sl s r p (off + l) (h' - l) (exOf c h' c' n e)) rows := Eq.trans rfl rfl
theorem q_sn (b) : kSeq C b Q .normal env rows = aw C b Q env rows := Eq.trans rfl rfl
theorem q_sr (b) : kSeq C b Q .ret env rows = Q .ret env rows := Eq.trans rfl rfl
theorem q_se (b i) : kSeq C b Q (.exit i) env rows = Q (.exit i) env rows := Eq.trans rfl rfl
theorem q_bn (id) : kBlk id Q .normal env rows = Q .normal env rows := Eq.trans rfl rfl
theorem q_br (id) : kBlk id Q .ret env rows = Q .ret env rows := Eq.trans rfl rfl
theorem q_be (id i) : kBlk id Q (.exit i) env rows = bif i == id then Q .normal env rows else Q (.exit i) env rows := by
 simp only [kBlk]
 by_cases h : i = id
 ·subst h; simp
 ·have : (i == id) = false := by simpa using h
  simp [h, this]
theorem q_ct (a b) : kCond C a b Q env rows (.raw (.bool true)) = aw C a Q env rows := by simp [kCond]
theorem q_cf (a b) : kCond C a b Q env rows (.raw (.bool false)) = aw C b Q env rows := by simp [kCond]
theorem q_on  : aops C [] env rows K = K env rows := Eq.trans rfl rfl
theorem q_oc (dst o os) : aops C (⟨dst, o, none⟩ :: os) env rows K = aop C env rows o (kOp C dst os env K) := Eq.trans rfl rfl
theorem q_og (dst o g want os) : aops C (⟨dst, o, some (g, want)⟩ :: os) env rows K = bnd (look env g) (kGd C dst o want os env rows K) := Eq.trans rfl rfl
theorem q_gtt (dst o os) : kGd C dst o true os env rows K (.raw (.bool true)) = aop C env rows o (kOp C dst os env K) := by simp only [kGd]; simp; rfl
theorem q_gtf (dst o os) : kGd C dst o false os env rows K (.raw (.bool true)) = aops C os (put dst (.tup []) env) rows K := by simp [kGd]
theorem q_gft (dst o os) : kGd C dst o true os env rows K (.raw (.bool false)) = aops C os (put dst (.tup []) env) rows K := by simp [kGd]
theorem q_gff (dst o os) : kGd C dst o false os env rows K (.raw (.bool false)) = aop C env rows o (kOp C dst os env K) := by simp only [kGd]; simp; rfl
theorem q_gz (dst o want os) : kGd C dst o want os env rows K (.tup []) = aops C os (put dst (.tup []) env) rows K := Eq.trans rfl rfl
theorem q_ko (dst os d) : kOp C dst os env K d rows = aops C os (put dst d env) rows K := Eq.trans rfl rfl
theorem q_bs {α : Type} (a : α) (k : α → Prop) : bnd (some a) k = k a := Eq.trans rfl rfl
theorem q_et (t) : ev C env (.tmp t) = look env t := Eq.trans rfl rfl
theorem q_ec (v) : ev C env (.const v) = some (.raw v) := Eq.trans rfl rfl
theorem q_eg (g) : ev C env (.glob g) = (C.glob g).map D.cptr := by
 simp only [ev]
 cases C.glob g <;> rfl
theorem q_lk (j t d) : look ((j, d) :: env) t = bif j == t then some d else look env t := Eq.trans rfl rfl
theorem q_ps (t d) : put (some t) d env = (t, d) :: env := Eq.trans rfl rfl
theorem q_pn (d) : put none d env = env := Eq.trans rfl rfl
theorem q_es0  : evs C env [] = some [] := Eq.trans rfl rfl
theorem q_es1 (x l) : evs C env (x :: l) = match ev C env x with | some d => (match evs C env l with | some ds => some (d :: ds) | none => none) | none => none := Eq.trans rfl rfl
theorem q_eo0  : evo C env none = some none := Eq.trans rfl rfl
theorem q_eo1 (x) : evo C env (some x) = (ev C env x).bind fun d => (asI d).map some := by
 show (match ev C env x with | some (.raw (.int _ n)) => some (some n) | _ => none) = _
 cases ev C env x with
 | none => rfl
 | some d => cases d with
  | raw v => cases v <;> rfl
  | _ => rfl
theorem o_mv (x) : aop C env rows (.mv x) k = bnd (ev C env x) fun d => k d rows := Eq.trans rfl rfl
theorem o_pick (c a b) : aop C env rows (.pick c a b) k = bnd (ev C env c) (kPick C a b env rows k) := Eq.trans rfl rfl
theorem o_bin (op x y) : aop C env rows (.bin op x y) k = bnd (ev C env x) fun
  | .raw a => bnd (ev C env y) fun
   | .raw b => aBin op a b fun d => k d rows
   | _ => False
  | _ => False := Eq.trans rfl rfl
theorem o_eqa (s neg x y) : aop C env rows (.eqa s neg x y) k = bnd (ev C env x) fun dx => bnd (ev C env y) fun dy => bnd (eqA s dx dy) fun b => k (.raw (.bool (bif neg then !b else b))) rows := by
 show bnd _ _ = _
 congr 1
 funext dx
 cases dx with
 | agg s1 l =>
  show bnd _ _ = _
  congr 1
  funext dy
  cases dy with
  | agg s2 l' =>
   show (s1 = s ∧ s2 = s ∧ _) = _
   unfold eqA
   by_cases h1 : s1 = s
   ·by_cases h2 : s2 = s
    ·simp [h1, h2]
    ·have : (s2 == s) = false := by simpa using h2
     simp [h2, this, bnd]
   ·have : (s1 == s) = false := by simpa using h1
    simp [h1, this, bnd]
  | _ => rfl
 | _ =>
  cases ev C env y <;> rfl
theorem ea_agg (s l l') : eqA s (.agg s l) (.agg s l') = eqL l l' := by simp [eqA]
theorem eL_n  : eqL [] [] = some true := Eq.trans rfl rfl
theorem eL_c (a l b l') : eqL (a :: l) (b :: l') = (eqD a b).bind fun t => (eqL l l').map fun u => t && u := by
 simp only [eqL]
 cases eqD a b with
 | none => rfl
 | some t => cases eqL l l' <;> rfl
theorem eD_agg (s l s' l') : eqD (.agg s l) (.agg s' l') = eqL l l' := by simp only [eqD]
theorem eD_u8 (a b) : eqD (.raw (u8 a)) (.raw (u8 b)) = some (decide (a = b)) := by simp only [eqD, eqLeaf, u8, if_true]; congr 1; exact decide_eq_decide.2 ⟨fun h => BitVec.eq_of_toNat_eq (by omega), fun h => by rw [h]⟩
theorem eD_u32 (a b) : eqD (.raw (u32 a)) (.raw (u32 b)) = some (decide (a = b)) := by simp only [eqD, eqLeaf, u32, if_true]; congr 1; exact decide_eq_decide.2 ⟨fun h => BitVec.eq_of_toNat_eq (by omega), fun h => by rw [h]⟩
theorem eD_u64 (a b) : eqD (.raw (u64 a)) (.raw (u64 b)) = some (decide (a = b)) := by simp only [eqD, eqLeaf, u64, if_true]; congr 1; exact decide_eq_decide.2 ⟨fun h => BitVec.eq_of_toNat_eq (by omega), fun h => by rw [h]⟩
theorem eD_it (a b) : eqD (.raw (it a)) (.raw (it b)) = some (decide (a = b)) := by simp only [eqD, eqLeaf, it, if_true]
theorem eD_b (a b) : eqD (.raw (.bool a)) (.raw (.bool b)) = some (a == b) := by simp only [eqD, eqLeaf]
theorem o_beq (neg x y) : aop C env rows (.beq neg x y) k = bnd (ev C env x) fun
  | .raw (.bool a) => bnd (ev C env y) fun
   | .raw (.bool b) => k (.raw (.bool (bif neg then !(a == b) else a == b))) rows
   | _ => False
  | _ => False := Eq.trans rfl rfl
theorem o_un (op x) : aop C env rows (.un op x) k = bnd (ev C env x) fun
  | .raw a => aUn op a fun d => k d rows
  | _ => False := Eq.trans rfl rfl
theorem o_conv (kd x) : aop C env rows (.conv kd x) k = bnd (ev C env x) fun d => bnd (cvD kd d) fun v => k (.raw v) rows := by
 show (bnd _ _) = _
 congr 1

 funext d
 cases d with
 | raw v => cases v <;> rfl
 | _ => rfl
theorem o_convs (x) : aop C env rows (.convs x) k = bnd (ev C env x) fun
  | .raw (.string b) => k (.raw (.string b)) rows
  | _ => False := Eq.trans rfl rfl
theorem o_alloc (s z) : aop C env rows (.alloc s z) k = k (.ptr s rows.length [0]) (rows ++ [some ⟨s, [z]⟩]) := Eq.trans rfl rfl
theorem o_box (s x) : aop C env rows (.box s x) k = bnd (ev C env x) fun d => d.fits s = true ∧ k (.ptr s rows.length [0]) (rows ++ [some ⟨s, [d]⟩]) := Eq.trans rfl rfl
theorem o_build (s z parts) : aop C env rows (.build s z parts) k = bnd (fillP C env s.sub parts z) fun l => k (.agg s l) rows := Eq.trans rfl rfl
theorem o_bslice (s n z parts) : aop C env rows (.bslice s n z parts) k = bnd (fillP C env (Sh.ar n s).sub parts (List.replicate n z)) fun l => k (.sl s rows.length [] 0 n true) (rows ++ [some ⟨s, l⟩]) := Eq.trans rfl rfl
theorem o_load (s x) : aop C env rows (.load s x) k = bnd (ev C env x) fun
  | .ptr s' r p => s' = s ∧ bnd (live rows r) fun row => bnd (rowGet row.els p) fun d => k d rows
  | .cptr d => d.fits s = true ∧ k d rows
  | .aptr m t r p off => s = .ar m t ∧ bnd (elems rows (.sl t r p off m false)) fun l => l.length = m ∧ k (.agg s l) rows
  | _ => False := Eq.trans rfl rfl
theorem o_store (s x v) : aop C env rows (.store s x v) k = bnd (ev C env x) fun
  | .ptr s' r p => bnd (ev C env v) fun d => d.fits s = true ∧ s' = s ∧ bnd (live rows r) fun row => bnd (rowSet row.els p d) fun els =>
    k (.tup []) (rows.set r (some ⟨row.sh, els⟩))
  | _ => False := Eq.trans rfl rfl
theorem o_nilc (x) : aop C env rows (.nilc x) k = bnd (ev C env x) fun
  | .ptr s r p => k (.ptr s r p) rows
  | .cptr d => k (.cptr d) rows
  | _ => False := Eq.trans rfl rfl
theorem o_faddr (s x i) : aop C env rows (.faddr s x i) k = bnd (ev C env x) fun
  | .ptr s' r p => s' = s ∧ bnd (s.sub i) fun e => k (.ptr e r (p ++ [i])) rows
  | .cptr (.agg s' l) => s' = s ∧ bnd (l[i]?) fun d => k (.cptr d) rows
  | _ => False := Eq.trans rfl rfl
theorem o_field (s x i) : aop C env rows (.field s x i) k = bnd (ev C env x) fun
  | .agg s' l => s' = s ∧ bnd (l[i]?) fun d => k d rows
  | _ => False := Eq.trans rfl rfl
theorem o_iaddra (m s x i) : aop C env rows (.iaddra m s x i) k = bnd (ev C env x) fun dx => bnd (ev C env i) fun di => bnd (asI di) fun n => match dx with
   | .ptr t r p => t = .ar m s ∧ 0 ≤ n ∧ n < (m : Int) ∧ k (.ptr s r (p ++ [n.toNat])) rows
   | .cptr (.agg t l) => t = .ar m s ∧ 0 ≤ n ∧ n < (m : Int) ∧ bnd (l[n.toNat]?) fun d => k (.cptr d) rows
   | _ => False := by
 show (bnd _ _) = _
 congr 1
 funext dx
 show (bnd _ _) = _
 congr 1
 funext d
 cases d with
 | raw v => cases v <;> rfl
 | _ => rfl
theorem o_iaddrs (s x i) : aop C env rows (.iaddrs s x i) k = bnd (ev C env x) fun dx => bnd (ev C env i) fun di => bnd (asI di) fun n => kIdx s n rows k dx := by
 show (bnd _ _) = _
 congr 1
 funext dx
 show (bnd _ _) = _
 congr 1
 funext d
 cases d with
 | raw v => cases v <;> rfl
 | _ => rfl
theorem q_ixl (s n t l e) : kIdx s n rows k (.lst t l e) = (t = s ∧ 0 ≤ n ∧ n < (l.length : Int) ∧ bnd (l[n.toNat]?) fun d => k (.cptr d) rows) := Eq.trans rfl rfl
theorem q_ixs (s n t r p off len e) : kIdx s n rows k (.sl t r p off len e) = (t = s ∧ 0 ≤ n ∧ n < (len : Int) ∧ k (.ptr s r (p ++ [off + n.toNat])) rows) := Eq.trans rfl rfl
theorem o_index (m s x i) : aop C env rows (.index m s x i) k = bnd (ev C env x) fun
  | .agg t l => bnd (ev C env i) fun di => bnd (asI di) fun n => t = .ar m s ∧ 0 ≤ n ∧ n < (m : Int) ∧ bnd (l[n.toNat]?) fun d => k d rows
  | _ => False := by
 show (bnd _ _) = _
 congr 1
 funext dx
 cases dx with
 | agg t l =>
  show (bnd _ _) = _
  congr 1
  funext d
  cases d with
  | raw v => cases v <;> rfl
  | _ => rfl
 | _ => rfl
theorem o_sindex (x i) : aop C env rows (.sindex x i) k = bnd (ev C env x) fun
  | .raw (.string b) => bnd (ev C env i) fun di => bnd (asI di) fun n => 0 ≤ n ∧ bnd (b.data.toList[n.toNat]?) fun c => k (.raw (u8 c.toBitVec)) rows
  | _ => False := by
 show (bnd _ _) = _
 congr 1
 funext dx
 cases dx with
 | raw v => cases v with
  | string b =>
   show (bnd _ _) = _
   congr 1
   funext d
   cases d with
   | raw v => cases v <;> rfl
   | _ => rfl
  | _ => rfl
 | _ => rfl
theorem o_slicea (m s x lo hi mx) : aop C env rows (.slicea m s x lo hi mx) k = bnd (ev C env x) fun dx => bnd (evo C env lo) fun l => bnd (evo C env hi) fun h => bnd (evo C env mx) fun c =>
   aBounds (l.getD 0) (h.getD m) (c.getD m) m fun l h c => match dx with
    | .ptr t r p => t = .ar m s ∧ k (.sl s r p l (h - l) (h == c)) rows
    | .cptr (.agg t els) => t = .ar m s ∧ k (.lst s ((els.drop l).take (h - l)) (h == c)) rows
    | _ => False := Eq.trans rfl rfl
theorem o_slice (s x lo hi mx) : aop C env rows (.slice s x lo hi mx) k = bnd (ev C env x) fun dx => bnd (evo C env lo) fun l => bnd (evo C env hi) fun h => bnd (evo C env mx) fun c => kSlice s l h c rows k dx := Eq.trans rfl rfl
theorem o_sslice (x lo hi) : aop C env rows (.sslice x lo hi) k = bnd (ev C env x) fun
  | .raw (.string b) => bnd (evo C env lo) fun l => bnd (evo C env hi) fun h => aBounds (l.getD 0) (h.getD b.size) b.size b.size fun l h _ => k (.raw (.string (b.extract l h))) rows
  | _ => False := Eq.trans rfl rfl
theorem o_mks (s bytes z len cap) : aop C env rows (.mks s bytes z len cap) k = bnd (ev C env len) fun dl => bnd (asI dl) fun l => bnd (ev C env cap) fun dc => bnd (asI dc) fun c => 0 ≤ l ∧ l ≤ c ∧ c * bytes ≤ (most : Int) ∧ c ≤ (most : Int) ∧
     k (.sl s rows.length [] 0 l.toNat (decide (l = c))) (rows ++ [some ⟨s, List.replicate l.toNat z⟩]) := by
 show (bnd _ _) = _
 congr 1
 funext d
 cases d with
 | raw v => cases v with
  | int kk l =>
   show (bnd _ _) = _
   congr 1
   funext d
   cases d with
   | raw v => cases v <;> rfl
   | _ => rfl
  | _ => rfl
 | _ => rfl
theorem o_ext (x i) : aop C env rows (.ext x i) k = bnd (ev C env x) fun
  | .tup l => bnd (l[i]?) fun d => k d rows
  | _ => False := Eq.trans rfl rfl
theorem o_len (x) : aop C env rows (.len x) k = bnd (ev C env x) fun d => bnd (slen d) fun n => k (.raw (it n)) rows := Eq.trans rfl rfl
theorem o_strlen (x) : aop C env rows (.strlen x) k = bnd (ev C env x) fun
  | .raw (.string b) => k (.raw (it b.size)) rows
  | _ => False := Eq.trans rfl rfl
theorem o_append (s bytes a b) : aop C env rows (.append s bytes a b) k = bnd (ev C env a) fun da => bnd (ev C env b) fun db => bnd (srcOf rows s db) fun news => (∀ k, slen db = some k → news.length = k) ∧ aApp rows s bytes da news k := Eq.trans rfl rfl
theorem o_appendz (s bytes z a n) : aop C env rows (.appendz s bytes z a n) k = bnd (ev C env a) fun da => bnd (ev C env n) fun dn => bnd (asI dn) fun m => 0 ≤ m ∧ aApp rows s bytes da (List.replicate m.toNat z) k := by
 show (bnd _ _) = _
 congr 1
 funext dx
 show (bnd _ _) = _
 congr 1
 funext d
 cases d with
 | raw v => cases v <;> rfl
 | _ => rfl
theorem o_copy (s a b) : aop C env rows (.copy s a b) k = bnd (ev C env a) fun da => bnd (ev C env b) fun db => bnd (srcOf rows s db) fun src => (∀ k, slen db = some k → src.length = k) ∧ aCopy rows s da src k := Eq.trans rfl rfl
theorem o_minmax (mx l) : aop C env rows (.minmax mx l) k = bnd (evs C env l) fun ds => bnd (minmaxI mx ds) fun r => k (.raw (.int r.1 r.2)) rows := Eq.trans rfl rfl
theorem mm_c (mx n l) : minmaxI mx (.raw (it n) :: l) = (mmFold mx .i64 n l).map fun m => (IntKind.i64, m) := by
 simp only [minmaxI, it]
 cases mmFold mx .i64 n l <;> rfl
theorem mf_n (mx kd n) : mmFold mx kd n [] = some n := Eq.trans rfl rfl
theorem mf_c (mx n m l) : mmFold mx .i64 n (.raw (it m) :: l) = mmFold mx .i64 (bif mx then max n m else min n m) l := by simp [mmFold, it]
theorem fold_it (n) : Value.int .i64 n = it n := Eq.trans rfl rfl
theorem o_b2s (x) : aop C env rows (.b2s x) k = bnd (ev C env x) fun d => sshape (.leaf u8s) d = true ∧ bnd (elems rows d) fun l => bnd (slen d) fun n => l.length = n ∧ bnd (mapO toByte l) fun bs => k (.raw (.string ⟨bs.toArray⟩)) rows := Eq.trans rfl rfl
theorem o_s2b (x) : aop C env rows (.s2b x) k = bnd (ev C env x) fun
  | .raw (.string b) => k (.lst (.leaf u8s) (ofBytes b) false) rows
  | _ => False := Eq.trans rfl rfl
theorem o_call (f args) : aop C env rows (.call f args) k = bnd (evs C env args) fun ds => kFn C rows f k (C.fn f) ds := by
 show bnd _ (fun ds => aCall C rows f ds k) = _
 congr 1
 funext ds
 unfold aCall
 cases C.fn f <;> rfl
theorem q_fns (f A ds) : kFn C rows f k (some A) ds = kCall A rows k ds := Eq.trans rfl rfl
theorem q_fnn (f ds) : kFn C rows f k none ds = bnd (C.fnrq f) fun A => A ds rows k := Eq.trans rfl rfl
theorem q_frq (f) : C.fnrq f = (C.fnr f).or ((C.fnq f).map qrun) := by unfold Ctx.fnrq; cases C.fnr f <;> rfl
theorem q_qfr (f) : C.quiet.fnr f = none := Eq.trans rfl rfl
theorem q_qfq (f) : C.quiet.fnq f = C.fnq f := Eq.trans rfl rfl
theorem q_ors (A : AFun) (o : Option AFun) : (some A : Option AFun).or o = some A := Eq.trans rfl rfl
theorem q_orn (o : Option AFun) : (none : Option AFun).or o = o := by cases o <;> rfl
theorem q_qrn (q ds) (K : D → Rows → Prop) : qrun q ds rows K = bnd (q ds rows) fun r => K r.1 (rows ++ r.2) := Eq.trans rfl rfl
theorem o_callv (fs x args) : aop C env rows (.callv fs x args) k = bnd (ev C env x) fun
  | .raw (.func (.func f) c1 c2) => c1 = #[] ∧ c2 = #[] ∧ memB f fs = true ∧ bnd (evs C env args) fun ds => kFn C rows f k (C.fn f) ds
  | _ => False := by
 show bnd _ _ = _
 congr 1
 funext d
 cases d with
 | raw v => cases v with
  | func cl c1 c2 => cases cl with
   | func f =>
    show (_ ∧ _ ∧ _ ∧ bnd _ (fun ds => aCall C rows f ds k)) = _
    congr 3
    congr 1
    funext ds
    unfold aCall
    cases C.fn f <;> rfl
   | _ => rfl
  | _ => rfl
 | _ => rfl
theorem o_fail  : aop C env rows (.fail) k = False := Eq.trans rfl rfl
theorem o_eqnil (neg x y) : aop C env rows (.eqnil neg x y) k = bnd (ev C env x) fun dx => bnd (ev C env y) fun dy => bnd (nilB dx dy) fun b => k (.raw (.bool (bif neg then !b else b))) rows := by
 show bnd _ _ = _
 congr 1
 funext dx
 show bnd _ _ = _
 congr 1
 funext dy
 cases dy with
 | raw v => cases v with
  | pointer ad => cases ad with
   | none => cases dx with
    | raw v => cases v with
     | pointer ad => cases ad <;> cases neg <;> rfl
     | _ => rfl
    | _ => cases neg <;> rfl
   | some _ => cases dx with
    | raw v => cases v with
     | pointer ad => cases ad <;> rfl
     | _ => rfl
    | _ => rfl
  | _ => cases dx with
    | raw v => cases v with
     | pointer ad => cases ad <;> rfl
     | _ => rfl
    | _ => rfl
 | _ => cases dx with
  | raw v => cases v with
   | pointer ad => cases ad <;> rfl
   | _ => rfl
  | _ => rfl
theorem nb_nn  : nilB (.raw (.pointer none)) (.raw (.pointer none)) = some true := Eq.trans rfl rfl
theorem nb_pn (s r p) : nilB (.ptr s r p) (.raw (.pointer none)) = some false := Eq.trans rfl rfl
theorem nb_cn (d) : nilB (.cptr d) (.raw (.pointer none)) = some false := Eq.trans rfl rfl
theorem o_eqsn (neg x y) : aop C env rows (.eqsn neg x y) k = bnd (ev C env x) fun dx => bnd (ev C env y) fun
  | .raw (.slice none 0 0) => match dx with
   | .raw (.slice none 0 0) => k (.raw (.bool (!neg))) rows
   | .lst _ l _ => (l.length = 0 → k (.raw (.bool (!neg))) rows) ∧ k (.raw (.bool neg)) rows
   | .sl _ _ _ _ len _ => (len = 0 → k (.raw (.bool (!neg))) rows) ∧ k (.raw (.bool neg)) rows
   | _ => False
  | _ => False := Eq.trans rfl rfl
theorem o_s2a (n s x) : aop C env rows (.s2a n s x) k = bnd (ev C env x) fun
  | .sl t r p off len _ => t = s ∧ n ≤ len ∧ 0 < n ∧ k (.aptr n s r p off) rows
  | .lst t l _ => t = s ∧ n ≤ l.length ∧ 0 < n ∧ k (.cptr (.agg (.ar n s) (l.take n))) rows
  | _ => False := Eq.trans rfl rfl
theorem o_frzb (s x) : aop C env rows (.frzb s x) k = bnd (ev C env x) fun
  | .sl t r [] off len ex => t = s ∧ 0 < len ∧ bnd (live rows r) fun row => off + len ≤ row.els.length ∧ k (.sl s r [] off len ex) rows
  | _ => False := Eq.trans rfl rfl
theorem o_mnz (x) : aop C env rows (.mnz x) k = bnd (ev C env x) fun dx => bnd (asIt dx) fun n => 0 ≤ n ∧ n ≤ (most : Int) ∧ ∀ l : List (BitVec 8), l.length = n.toNat → k (.sl L8 rows.length [] 0 n.toNat false) (rows ++ [some ⟨L8, l.map fun b => .raw (u8 b)⟩]) := by
 show (bnd _ _) = _
 congr 1
 funext d
 cases d with
 | raw v => cases v with
  | int kd n => cases kd <;> simp only [asIt, bnd, reduceCtorEq, false_and, true_and] <;> rfl
  | _ => rfl
 | _ => rfl
theorem asIt_it (n) : asIt (.raw (it n)) = some n := Eq.trans rfl rfl
theorem o_mkm (ks vs) : aop C env rows (.mkm ks vs) k = k (.mp rows.length) (rows ++ [some ⟨mpS ks vs, []⟩]) := Eq.trans rfl rfl
theorem o_mset (ks vs m x v) : aop C env rows (.mset ks vs m x v) k = bnd (ev C env m) fun dm => bnd (asMp dm) fun r => bnd (ev C env x) fun kd => bnd (ev C env v) fun dv => bnd (asRaw dv) fun val => kd.fits ks = true ∧ (D.raw val).fits vs = true ∧ bnd (live rows r) fun row => row.sh = mpS ks vs ∧
     k (.tup []) (rows.set r (some ⟨row.sh, .agg (mpS ks vs) [kd, .raw val] :: row.els⟩)) := by
 show (bnd _ _) = _
 congr 1
 funext d
 cases d with
 | mp r =>
  show (bnd _ _) = _
  congr 1
  funext d2
  show (bnd _ _) = _
  congr 1
  funext d3
  cases d3 <;> rfl
 | _ => rfl
theorem o_mget (ks vs ok z m x) : aop C env rows (.mget ks vs ok z m x) k = bnd (ev C env m) fun dm => bnd (ev C env x) fun kd => kd.fits ks = true ∧ bnd (melems rows (mpS ks vs) dm) fun els => bnd (mfind kd els) fun o => k (mres ok z o) rows := Eq.trans rfl rfl
theorem mr_mp (r) : asMp (.mp r) = some r := Eq.trans rfl rfl
theorem mr_raw (v) : asRaw (.raw v) = some v := Eq.trans rfl rfl
theorem me_mp (rows s r) : melems rows s (.mp r) = (live rows r).bind fun row => bif row.sh == s then some row.els else none := by simp only [melems]; cases live rows r <;> rfl
theorem me_om (rows s t l) : melems rows s (.om t l) = bif t == s then some l else none := Eq.trans rfl rfl
theorem mr_ft (z v) : mres false z (some v) = .raw v := Eq.trans rfl rfl
theorem mr_tt (z v) : mres true z (some v) = .tup [.raw v, .raw (.bool true)] := Eq.trans rfl rfl
theorem mr_fn (z) : mres false z none = z := Eq.trans rfl rfl
theorem mr_tn (z) : mres true z none = .tup [z, .raw (.bool false)] := Eq.trans rfl rfl
theorem q_pk (a b t) : kPick C a b env rows k (.raw (.bool t)) = bnd (pkO t (ev C env a) (ev C env b)) fun d => k d rows := Eq.trans rfl rfl
theorem q_pkt (x y) : pkO true x y = x := Eq.trans rfl rfl
theorem q_pkf (x y) : pkO false x y = y := Eq.trans rfl rfl
theorem q_f0 (sub z) : fillP C env sub [] z = some z := Eq.trans rfl rfl
theorem q_f1 (sub z i x r) : fillP C env sub ((i, x) :: r) z = match ev C env x with
  | some d => match sub i with
   | some e => bif d.fits e then fillP C env sub r (z.set i d) else none
   | none => none
  | none => none := Eq.trans rfl rfl
theorem q_call (A ds) : kCall A rows k ds = bnd (inD rows ds) fun ds' => bnd (A ds' []) fun r => (bif hasRefL ds then (noLst r.1 && noLstRows r.2) else true) = true ∧ k (shift rows.length r.1) (rows ++ shiftRows rows.length r.2) := by
 unfold kCall inD
 cases hasRefL ds with
 | true => simp
 | false =>
  simp
  cases hA : A ds [] <;> simp [bnd, hA]
theorem q_afun (np res ac ds) : afun C np res ac ds rows k = (ds.length = np ∧ aw C ac (kFin res k) (zipEnv 0 ds) rows) := Eq.trans rfl rfl
theorem in_d (ds) : inD rows ds = bif hasRefL ds then mapO (view rows 9) ds else some ds := Eq.trans rfl rfl
theorem hl_n  : hasRefL [] = false := Eq.trans rfl rfl
theorem hl_c (d l) : hasRefL (d :: l) = (hasRef d || hasRefL l) := Eq.trans rfl rfl
theorem hr_raw (v) : hasRef (.raw v) = false := Eq.trans rfl rfl
theorem hr_ptr (s r p) : hasRef (.ptr s r p) = true := Eq.trans rfl rfl
theorem hr_sl (s r p o n e) : hasRef (.sl s r p o n e) = true := Eq.trans rfl rfl
theorem hr_aptr (n s r p o) : hasRef (.aptr n s r p o) = true := Eq.trans rfl rfl
theorem hr_lst (s l e) : hasRef (.lst s l e) = bif s.pure then false else hasRefL l := Eq.trans rfl rfl
theorem hr_cptr (d) : hasRef (.cptr d) = hasRef d := Eq.trans rfl rfl
theorem hr_mp (r) : hasRef (.mp r) = true := Eq.trans rfl rfl
theorem hr_om (s l) : hasRef (.om s l) = false := Eq.trans rfl rfl
theorem hr_agg (s l) : hasRef (.agg s l) = bif s.pure then false else hasRefL l := Eq.trans rfl rfl
theorem hr_tup (l) : hasRef (.tup l) = hasRefL l := Eq.trans rfl rfl
theorem pu_leaf (c) : Sh.pure (.leaf c) = true := Eq.trans rfl rfl
theorem pu_ref  : Sh.pure .ref = false := Eq.trans rfl rfl
theorem pu_nil  : Sh.pure .nil = true := Eq.trans rfl rfl
theorem pu_cons (a b) : Sh.pure (.cons a b) = (a.pure && b.pure) := Eq.trans rfl rfl
theorem pu_ar (n a) : Sh.pure (.ar n a) = a.pure := Eq.trans rfl rfl
theorem mo_n {α β : Type} (f) : mapO f ([] : List α) = some ([] : List β) := Eq.trans rfl rfl
theorem mo_c {α β : Type} (f : α → Option β) (x l) : mapO f (x :: l) = (f x).bind fun y => (mapO f l).map fun ys => y :: ys := by
 simp only [mapO]
 cases f x with
 | none => rfl
 | some y => cases mapO f l <;> rfl
theorem vw_raw (m v) : view rows (m + 1) (.raw v) = some (.raw v) := Eq.trans rfl rfl
theorem vw_om (m s l) : view rows (m + 1) (.om s l) = some (.om s l) := Eq.trans rfl rfl
theorem vw_mp (m r) : view rows (m + 1) (.mp r) = (live rows r).map fun row => .om row.sh row.els := by simp only [view]; cases live rows r <;> rfl
theorem vw_lst (m s l e) : view rows (m + 1) (.lst s l e) = bif s.pure then some (.lst s l e) else (mapO (view rows m) l).map fun l' => .lst s l' e := by
 simp only [view]
 cases s.pure with
 | true => rfl
 | false => cases mapO (view rows m) l <;> rfl
theorem vw_agg (m s l) : view rows (m + 1) (.agg s l) = bif s.pure then some (.agg s l) else (mapO (view rows m) l).map fun l' => .agg s l' := by
 simp only [view]
 cases s.pure with
 | true => rfl
 | false => cases mapO (view rows m) l <;> rfl
theorem vw_ptr (m s r p) : view rows (m + 1) (.ptr s r p) = (live rows r).bind fun row => (rowGet row.els p).bind fun d => bif s.pure then some (.cptr d) else (view rows m d).map .cptr := by
 simp only [view]
 cases live rows r with
 | none => rfl
 | some row =>
  simp only [Option.bind_some]
  cases rowGet row.els p with
  | none => rfl
  | some d =>
   simp only [Option.bind_some]
   cases s.pure with
   | true => rfl
   | false => cases view rows m d <;> rfl
theorem vw_sl (m s r p o n e) : view rows (m + 1) (.sl s r p o n e) = (elems rows (.sl s r p o n e)).bind fun l => bif !(l.length == n) then none else bif s.pure then some (.lst s l e) else (mapO (view rows m) l).map fun l' => .lst s l' e := by
 simp only [view]
 cases elems rows (.sl s r p o n e) with
 | none => rfl
 | some l =>
  simp only [Option.bind_some]
  cases (l.length == n) with
  | false => rfl
  | true =>
   cases s.pure with
   | true => rfl
   | false => cases mapO (view rows m) l <;> rfl
theorem sf_raw (m v) : shift m (.raw v) = .raw v := Eq.trans rfl rfl
theorem sf_mp (m r) : shift m (.mp r) = .mp (r + m) := Eq.trans rfl rfl
theorem sf_om (m s l) : shift m (.om s l) = .om s l := Eq.trans rfl rfl
theorem sf_ptr (m s r p) : shift m (.ptr s r p) = .ptr s (r + m) p := Eq.trans rfl rfl
theorem sf_sl (m s r p o n e) : shift m (.sl s r p o n e) = .sl s (r + m) p o n e := Eq.trans rfl rfl
theorem sf_lst (m s l e) : shift m (.lst s l e) = bif s.pure then .lst s l e else .lst s (shiftL m l) e := Eq.trans rfl rfl
theorem sf_cptr (m d) : shift m (.cptr d) = .cptr (shift m d) := Eq.trans rfl rfl
theorem sf_agg (m s l) : shift m (.agg s l) = bif s.pure then .agg s l else .agg s (shiftL m l) := Eq.trans rfl rfl
theorem sf_tup (m l) : shift m (.tup l) = .tup (shiftL m l) := Eq.trans rfl rfl
theorem sL_n (m) : shiftL m [] = [] := Eq.trans rfl rfl
theorem sL_c (m d l) : shiftL m (d :: l) = shift m d :: shiftL m l := Eq.trans rfl rfl
theorem sr_n (m) : shiftRows m [] = [] := Eq.trans rfl rfl
theorem sr_s (m s els l) : shiftRows m (some ⟨s, els⟩ :: l) = some ⟨s, bif s.pure then els else shiftL m els⟩ :: shiftRows m l := Eq.trans rfl rfl
theorem sr_o (m l) : shiftRows m (none :: l) = none :: shiftRows m l := Eq.trans rfl rfl
theorem nl_raw (v) : noLst (.raw v) = true := Eq.trans rfl rfl
theorem nl_mp (r) : noLst (.mp r) = true := Eq.trans rfl rfl
theorem nl_ptr (s r p) : noLst (.ptr s r p) = true := Eq.trans rfl rfl
theorem nl_sl (s r p o n e) : noLst (.sl s r p o n e) = true := Eq.trans rfl rfl
theorem nl_agg (s l) : noLst (.agg s l) = bif s.pure then true else noLstL l := Eq.trans rfl rfl
theorem nl_tup (l) : noLst (.tup l) = noLstL l := Eq.trans rfl rfl
theorem nL_n  : noLstL [] = true := Eq.trans rfl rfl
theorem nL_c (d l) : noLstL (d :: l) = (noLst d && noLstL l) := Eq.trans rfl rfl
theorem nr_n  : noLstRows [] = true := Eq.trans rfl rfl
theorem nr_s (s els l) : noLstRows (some ⟨s, els⟩ :: l) = (s.pure && noLstRows l) := Eq.trans rfl rfl
theorem nr_o (l) : noLstRows (none :: l) = noLstRows l := Eq.trans rfl rfl
end eqs
theorem kLoop_step {C : Ctx} {a : ACode} {Q : AExit → Env → Rows → Prop} {env : Env} {rows : Rows} (n : Nat) (h : loopN (aw C a) Q n env rows) : kLoop C a Q env rows := ⟨n, h⟩
def kLp (C : Ctx) (a : ACode) (Q : AExit → Env → Rows → Prop) (n : Nat) : AExit → Env → Rows → Prop := fun e env rows => match e with
 | .normal => loopN (aw C a) Q n env rows
 | e => Q e env rows
theorem lp_s (C : Ctx) (a : ACode) (Q : AExit → Env → Rows → Prop) (n : Nat) (env : Env) (rows : Rows) : loopN (aw C a) Q (n + 1) env rows = aw C a (kLp C a Q n) env rows := Eq.trans rfl rfl
theorem lp_n (C : Ctx) (a : ACode) (Q : AExit → Env → Rows → Prop) (n : Nat) (env : Env) (rows : Rows) : kLp C a Q n .normal env rows = loopN (aw C a) Q n env rows := Eq.trans rfl rfl
theorem lp_r (C : Ctx) (a : ACode) (Q : AExit → Env → Rows → Prop) (n : Nat) (env : Env) (rows : Rows) : kLp C a Q n .ret env rows = Q .ret env rows := Eq.trans rfl rfl
theorem lp_e (C : Ctx) (a : ACode) (Q : AExit → Env → Rows → Prop) (n i : Nat) (env : Env) (rows : Rows) : kLp C a Q n (.exit i) env rows = Q (.exit i) env rows := Eq.trans rfl rfl
theorem asI_it (n : Int) : asI (.raw (it n)) = some n := Eq.trans rfl rfl
theorem asI_u8 (x : BitVec 8) : asI (.raw (u8 x)) = some (x.toNat : Int) := Eq.trans rfl rfl
theorem isSc_u8 (x : BitVec 8) : isSc (u8 x) (.int .u8) = true := Eq.trans rfl rfl
theorem one_u8 (x : BitVec 8) : (u8 x).oneCell' = true := Eq.trans rfl rfl
theorem asI_u32 (x : BitVec 32) : asI (.raw (u32 x)) = some (x.toNat : Int) := Eq.trans rfl rfl
theorem isSc_u32 (x : BitVec 32) : isSc (u32 x) (.int .u32) = true := Eq.trans rfl rfl
theorem one_u32 (x : BitVec 32) : (u32 x).oneCell' = true := Eq.trans rfl rfl
theorem asI_u64 (x : BitVec 64) : asI (.raw (u64 x)) = some (x.toNat : Int) := Eq.trans rfl rfl
theorem isSc_u64 (x : BitVec 64) : isSc (u64 x) (.int .u64) = true := Eq.trans rfl rfl
theorem one_u64 (x : BitVec 64) : (u64 x).oneCell' = true := Eq.trans rfl rfl
theorem isSc_it (n : Int) : isSc (it n) (.int .i64) = true := Eq.trans rfl rfl
theorem one_it (n : Int) : (it n).oneCell' = true := Eq.trans rfl rfl
theorem isSc_b (b : Bool) : isSc (.bool b) .bool = true := Eq.trans rfl rfl
theorem isSc_s (b : ByteArray) : isSc (.string b) .str = true := Eq.trans rfl rfl
theorem fits_raw (v : Value) (k : Sc) : D.fits (.raw v) (.leaf k) = isSc v k := Eq.trans rfl rfl
theorem fits_agg (s : Sh) (l : List D) (t : Sh) : D.fits (.agg s l) t = (s == t) := by cases t <;> rfl
theorem sh_beq (s : Sh) : (s == s) = true := by simp
theorem fits_lst (s l e) : D.fits (.lst s l e) .ref = true := Eq.trans rfl rfl
theorem fits_sl (s r p o n e) : D.fits (.sl s r p o n e) .ref = true := Eq.trans rfl rfl
theorem fits_ptr (s r p) : D.fits (.ptr s r p) .ref = true := Eq.trans rfl rfl
theorem fits_mp (r) : D.fits (.mp r) .ref = true := Eq.trans rfl rfl
theorem fits_om (s l) : D.fits (.om s l) .ref = true := Eq.trans rfl rfl
theorem fits_cptr (d) : D.fits (.cptr d) .ref = true := Eq.trans rfl rfl
theorem fits_nils : D.fits (.raw (.slice none 0 0)) .ref = true := Eq.trans rfl rfl
theorem cv_8_8 (x : BitVec 8) : cvD .u8 (.raw (u8 x)) = some (u8 (x.setWidth 8)) := by simp only [cvD, u8, u8, IntKind.wrap, IntKind.signed, IntKind.bits]; have := x.isLt; simp; try omega
theorem cv_8_32 (x : BitVec 8) : cvD .u32 (.raw (u8 x)) = some (u32 (x.setWidth 32)) := by simp only [cvD, u8, u32, IntKind.wrap, IntKind.signed, IntKind.bits]; have := x.isLt; simp; try omega
theorem cv_8_64 (x : BitVec 8) : cvD .u64 (.raw (u8 x)) = some (u64 (x.setWidth 64)) := by simp only [cvD, u8, u64, IntKind.wrap, IntKind.signed, IntKind.bits]; have := x.isLt; simp; try omega
theorem cv_8_it (x : BitVec 8) : cvD .i64 (.raw (u8 x)) = some (it x.toNat) := by simp only [cvD, u8, it, IntKind.wrap, IntKind.signed, IntKind.bits]; have := x.isLt; simp; try omega
theorem cv_it_8 (n : Int) : cvD .u8 (.raw (it n)) = some (u8 (BitVec.ofInt 8 n)) := by simp only [cvD, u8, it, IntKind.wrap, IntKind.signed, IntKind.bits]; simp [BitVec.toNat_ofInt]; try omega
theorem cv_32_8 (x : BitVec 32) : cvD .u8 (.raw (u32 x)) = some (u8 (x.setWidth 8)) := by simp only [cvD, u32, u8, IntKind.wrap, IntKind.signed, IntKind.bits]; have := x.isLt; simp
theorem cv_32_32 (x : BitVec 32) : cvD .u32 (.raw (u32 x)) = some (u32 (x.setWidth 32)) := by simp only [cvD, u32, u32, IntKind.wrap, IntKind.signed, IntKind.bits]; have := x.isLt; simp; try omega
theorem cv_32_64 (x : BitVec 32) : cvD .u64 (.raw (u32 x)) = some (u64 (x.setWidth 64)) := by simp only [cvD, u32, u64, IntKind.wrap, IntKind.signed, IntKind.bits]; have := x.isLt; simp; try omega
theorem cv_32_it (x : BitVec 32) : cvD .i64 (.raw (u32 x)) = some (it x.toNat) := by simp only [cvD, u32, it, IntKind.wrap, IntKind.signed, IntKind.bits]; have := x.isLt; simp; try omega
theorem cv_it_32 (n : Int) : cvD .u32 (.raw (it n)) = some (u32 (BitVec.ofInt 32 n)) := by simp only [cvD, u32, it, IntKind.wrap, IntKind.signed, IntKind.bits]; simp [BitVec.toNat_ofInt]; try omega
theorem cv_64_8 (x : BitVec 64) : cvD .u8 (.raw (u64 x)) = some (u8 (x.setWidth 8)) := by simp only [cvD, u64, u8, IntKind.wrap, IntKind.signed, IntKind.bits]; have := x.isLt; simp
theorem cv_64_32 (x : BitVec 64) : cvD .u32 (.raw (u64 x)) = some (u32 (x.setWidth 32)) := by simp only [cvD, u64, u32, IntKind.wrap, IntKind.signed, IntKind.bits]; have := x.isLt; simp
theorem cv_64_64 (x : BitVec 64) : cvD .u64 (.raw (u64 x)) = some (u64 (x.setWidth 64)) := by simp only [cvD, u64, u64, IntKind.wrap, IntKind.signed, IntKind.bits]; have := x.isLt; simp; try omega
theorem cv_64_it (x : BitVec 64) : cvD .i64 (.raw (u64 x)) = some (it (wz x.toNat)) := Eq.trans rfl rfl
theorem cv_it_64 (n : Int) : cvD .u64 (.raw (it n)) = some (u64 (BitVec.ofInt 64 n)) := by simp only [cvD, u64, it, IntKind.wrap, IntKind.signed, IntKind.bits]; simp [BitVec.toNat_ofInt]; try omega
theorem cv_it_it (n : Int) : cvD .i64 (.raw (it n)) = some (it (wz n)) := Eq.trans rfl rfl
section bins
variable (k : D → Prop)
theorem wr8 (n : Int) : IntKind.u8.wrap n = n % 256 := by
 unfold IntKind.wrap
 rw [if_neg (by simp [IntKind.signed])]
 rfl
theorem lt8 (x : BitVec 8) : (x.toNat : Int) < 256 := by have := x.isLt; omega
theorem of8 (x : BitVec 8) : BitVec.ofInt IntKind.u8.bits (x.toNat : Int) = x := by rw [BitVec.ofInt_natCast]; exact (BitVec.ofNat_toNat (m := 8) (x := x)).trans (BitVec.setWidth_eq _)
theorem id8 (x : BitVec 8) : ((x.toNat : Int)) % 256 = x.toNat := Int.emod_eq_of_lt (by omega) (lt8 x)
theorem b_add8 (x y : BitVec 8) : aBin .add (u8 x) (u8 y) k = k (.raw (u8 (x + y))) := by
 have h : ((x.toNat : Int) + y.toNat) % 256 = ((x + y).toNat : Int) := by rw [BitVec.toNat_add]; omega
 show (IntKind.u8 = IntKind.u8 ∧ k (.raw (.int .u8 _))) = _
 rw [eq_self, true_and, wr8, h]
 rfl
theorem b_sub8 (x y : BitVec 8) : aBin .sub (u8 x) (u8 y) k = k (.raw (u8 (x - y))) := by
 have h : ((x.toNat : Int) - y.toNat) % 256 = ((x - y).toNat : Int) := by
  have h1 := x.isLt
  have h2 := y.isLt
  rw [BitVec.toNat_sub]
  omega
 show (IntKind.u8 = IntKind.u8 ∧ k (.raw (.int .u8 _))) = _
 rw [eq_self, true_and, wr8, h]
 rfl
theorem b_mul8 (x y : BitVec 8) : aBin .mul (u8 x) (u8 y) k = k (.raw (u8 (x * y))) := by
 have h : ((x.toNat : Int) * y.toNat) % 256 = ((x * y).toNat : Int) := by rw [BitVec.toNat_mul, Int.natCast_emod, Int.natCast_mul]; rfl
 show (IntKind.u8 = IntKind.u8 ∧ k (.raw (.int .u8 _))) = _
 rw [eq_self, true_and, wr8, h]
 rfl
theorem b_and8 (x y : BitVec 8) : aBin .and (u8 x) (u8 y) k = k (.raw (u8 (x &&& y))) := by
 have h : ((BitVec.ofInt IntKind.u8.bits (x.toNat : Int) &&& BitVec.ofInt IntKind.u8.bits (y.toNat : Int)).toNat : Int) % 256 = ((x &&& y).toNat : Int) := by rw [of8, of8]; exact id8 _
 show (IntKind.u8 = IntKind.u8 ∧ k (.raw (.int .u8 _))) = _
 rw [eq_self, true_and, wr8, h]
 rfl
theorem b_or8 (x y : BitVec 8) : aBin .or (u8 x) (u8 y) k = k (.raw (u8 (x ||| y))) := by
 have h : ((BitVec.ofInt IntKind.u8.bits (x.toNat : Int) ||| BitVec.ofInt IntKind.u8.bits (y.toNat : Int)).toNat : Int) % 256 = ((x ||| y).toNat : Int) := by rw [of8, of8]; exact id8 _
 show (IntKind.u8 = IntKind.u8 ∧ k (.raw (.int .u8 _))) = _
 rw [eq_self, true_and, wr8, h]
 rfl
theorem b_xor8 (x y : BitVec 8) : aBin .xor (u8 x) (u8 y) k = k (.raw (u8 (x ^^^ y))) := by
 have h : ((BitVec.ofInt IntKind.u8.bits (x.toNat : Int) ^^^ BitVec.ofInt IntKind.u8.bits (y.toNat : Int)).toNat : Int) % 256 = ((x ^^^ y).toNat : Int) := by rw [of8, of8]; exact id8 _
 show (IntKind.u8 = IntKind.u8 ∧ k (.raw (.int .u8 _))) = _
 rw [eq_self, true_and, wr8, h]
 rfl
theorem b_andNot8 (x y : BitVec 8) : aBin .andNot (u8 x) (u8 y) k = k (.raw (u8 (x &&& ~~~y))) := by
 have h : ((BitVec.ofInt IntKind.u8.bits (x.toNat : Int) &&& ~~~BitVec.ofInt IntKind.u8.bits (y.toNat : Int)).toNat : Int) % 256 = ((x &&& ~~~y).toNat : Int) := by rw [of8, of8]; exact id8 _
 show (IntKind.u8 = IntKind.u8 ∧ k (.raw (.int .u8 _))) = _
 rw [eq_self, true_and, wr8, h]
 rfl
theorem b_quo8 (x y : BitVec 8) : aBin .quo (u8 x) (u8 y) k = (y ≠ 0 ∧ k (.raw (u8 (x / y)))) := by
 have h0 : ((y.toNat : Int) ≠ 0) = (y ≠ 0) := propext ⟨fun h h2 => h (by rw [h2]; rfl), fun h h2 => h (BitVec.eq_of_toNat_eq (by simp; omega))⟩
 have h : ((x.toNat : Int).tdiv y.toNat) % 256 = ((x / y).toNat : Int) := by
  rw [BitVec.toNat_udiv, Int.tdiv_eq_ediv_of_nonneg (by omega), ← Int.natCast_ediv, ← BitVec.toNat_udiv]
  exact id8 _
 show (IntKind.u8 = IntKind.u8 ∧ (y.toNat : Int) ≠ 0 ∧ k (.raw (.int .u8 _))) = _
 rw [eq_self, true_and, wr8, h, h0]
 rfl
theorem b_rem8 (x y : BitVec 8) : aBin .rem (u8 x) (u8 y) k = (y ≠ 0 ∧ k (.raw (u8 (x % y)))) := by
 have h0 : ((y.toNat : Int) ≠ 0) = (y ≠ 0) := propext ⟨fun h h2 => h (by rw [h2]; rfl), fun h h2 => h (BitVec.eq_of_toNat_eq (by simp; omega))⟩
 have h : ((x.toNat : Int).tmod y.toNat) = ((x % y).toNat : Int) := by
  rw [BitVec.toNat_umod, Int.tmod_eq_emod_of_nonneg (by omega), ← Int.natCast_emod]
 show (IntKind.u8 = IntKind.u8 ∧ (y.toNat : Int) ≠ 0 ∧ k (.raw (.int .u8 _))) = _
 rw [eq_self, true_and, h, h0]
 rfl
theorem b_eql8 (x y : BitVec 8) : aBin .eql (u8 x) (u8 y) k = k (.raw (.bool (decide (x = y)))) := by
 have h : decide ((x.toNat : Int) = y.toNat) = decide (x = y) := by
  apply decide_eq_decide.2
  exact ⟨fun h => BitVec.eq_of_toNat_eq (by omega), fun h => by rw [h]⟩
 show (IntKind.u8 = IntKind.u8 ∧ k (.raw (.bool (decide ((x.toNat : Int) = y.toNat))))) = _
 rw [eq_self, true_and, h]
theorem b_neq8 (x y : BitVec 8) : aBin .neq (u8 x) (u8 y) k = k (.raw (.bool (!decide (x = y)))) := by
 have h : decide ((x.toNat : Int) = y.toNat) = decide (x = y) := by
  apply decide_eq_decide.2
  exact ⟨fun h => BitVec.eq_of_toNat_eq (by omega), fun h => by rw [h]⟩
 show (IntKind.u8 = IntKind.u8 ∧ k (.raw (.bool (!decide ((x.toNat : Int) = y.toNat))))) = _
 rw [eq_self, true_and, h]
theorem b_lss8 (x y : BitVec 8) : aBin .lss (u8 x) (u8 y) k = k (.raw (.bool (decide (x < y)))) := by
 have h : decide ((x.toNat : Int) < y.toNat) = decide (x < y) := by
  apply decide_eq_decide.2
  exact by rw [BitVec.lt_def]; omega
 show (IntKind.u8 = IntKind.u8 ∧ k (.raw (.bool (decide ((x.toNat : Int) < y.toNat))))) = _
 rw [eq_self, true_and, h]
theorem b_leq8 (x y : BitVec 8) : aBin .leq (u8 x) (u8 y) k = k (.raw (.bool (decide (x ≤ y)))) := by
 have h : decide ((x.toNat : Int) ≤ y.toNat) = decide (x ≤ y) := by
  apply decide_eq_decide.2
  exact by rw [BitVec.le_def]; omega
 show (IntKind.u8 = IntKind.u8 ∧ k (.raw (.bool (decide ((x.toNat : Int) ≤ y.toNat))))) = _
 rw [eq_self, true_and, h]
theorem b_gtr8 (x y : BitVec 8) : aBin .gtr (u8 x) (u8 y) k = k (.raw (.bool (decide (y < x)))) := by
 have h : decide ((y.toNat : Int) < x.toNat) = decide (y < x) := by
  apply decide_eq_decide.2
  exact by rw [BitVec.lt_def]; omega
 show (IntKind.u8 = IntKind.u8 ∧ k (.raw (.bool (decide ((y.toNat : Int) < x.toNat))))) = _
 rw [eq_self, true_and, h]
theorem b_geq8 (x y : BitVec 8) : aBin .geq (u8 x) (u8 y) k = k (.raw (.bool (decide (y ≤ x)))) := by
 have h : decide ((y.toNat : Int) ≤ x.toNat) = decide (y ≤ x) := by
  apply decide_eq_decide.2
  exact by rw [BitVec.le_def]; omega
 show (IntKind.u8 = IntKind.u8 ∧ k (.raw (.bool (decide ((y.toNat : Int) ≤ x.toNat))))) = _
 rw [eq_self, true_and, h]
theorem shl_core8 (x : BitVec 8) (c : Nat) : ((x.toNat : Int) * 2 ^ (min c 8)) % 256 = ((x <<< c).toNat : Int) := by
 rw [BitVec.toNat_shiftLeft, Nat.shiftLeft_eq]
 rcases Nat.le_total c 8 with h | h
 ·rw [Nat.min_eq_left h, Int.natCast_emod, Int.natCast_mul, Int.natCast_pow]; rfl
 ·rw [Nat.min_eq_right h]
  have h1 : 2 ^ c = 2 ^ (c - 8) * 2 ^ 8 := by rw [← Nat.pow_add]; congr 1; omega
  rw [h1, ← Nat.mul_assoc, Nat.mul_mod_left]
  exact Int.mul_emod_left _ _
theorem shr_core8 (x : BitVec 8) (c : Nat) : (x.toNat : Int).fdiv (2 ^ (min c 8)) = ((x >>> c).toNat : Int) := by
 rw [BitVec.toNat_ushiftRight, Nat.shiftRight_eq_div_pow]
 have hp : ((2 : Int) ^ (min c 8)) = ((2 ^ (min c 8) : Nat) : Int) := by norm_cast
 rw [hp, Int.fdiv_eq_ediv_of_nonneg _ (Int.natCast_nonneg _), ← Int.natCast_ediv]
 congr 1
 rcases Nat.le_total c 8 with h | h
 ·rw [Nat.min_eq_left h]
 ·rw [Nat.min_eq_right h]
  have h0 := x.isLt
  rw [Nat.div_eq_of_lt h0, Nat.div_eq_of_lt (Nat.lt_of_lt_of_le h0 (Nat.pow_le_pow_right (by omega) h))]
theorem b_shl8_it (x : BitVec 8) (n : Int) : aBin .shl (u8 x) (it n) k = (0 ≤ n ∧ k (.raw (u8 (x <<< n.toNat)))) := by
 show (0 ≤ n ∧ k (.raw (.int .u8 (IntKind.u8.wrap ((x.toNat : Int) * 2 ^ (min n.toNat 8)))))) = _
 rw [wr8, shl_core8]
 rfl
theorem b_shr8_it (x : BitVec 8) (n : Int) : aBin .shr (u8 x) (it n) k = (0 ≤ n ∧ k (.raw (u8 (x >>> n.toNat)))) := by
 show (0 ≤ n ∧ k (.raw (.int .u8 ((x.toNat : Int).fdiv (2 ^ (min n.toNat 8)))))) = _
 rw [shr_core8]
 rfl
theorem b_shl8_8 (x : BitVec 8) (n : BitVec 8) : aBin .shl (u8 x) (u8 n) k = k (.raw (u8 (x <<< n.toNat))) := by
 show (0 ≤ (n.toNat : Int) ∧ k (.raw (.int .u8 (IntKind.u8.wrap ((x.toNat : Int) * 2 ^ (min (n.toNat : Int).toNat 8)))))) = _
 rw [wr8, Int.toNat_natCast, shl_core8, eq_true (by omega : 0 ≤ (n.toNat : Int)), true_and]
 rfl
theorem b_shr8_8 (x : BitVec 8) (n : BitVec 8) : aBin .shr (u8 x) (u8 n) k = k (.raw (u8 (x >>> n.toNat))) := by
 show (0 ≤ (n.toNat : Int) ∧ k (.raw (.int .u8 ((x.toNat : Int).fdiv (2 ^ (min (n.toNat : Int).toNat 8)))))) = _
 rw [Int.toNat_natCast, shr_core8, eq_true (by omega : 0 ≤ (n.toNat : Int)), true_and]
 rfl
theorem b_shl8_32 (x : BitVec 8) (n : BitVec 32) : aBin .shl (u8 x) (u32 n) k = k (.raw (u8 (x <<< n.toNat))) := by
 show (0 ≤ (n.toNat : Int) ∧ k (.raw (.int .u8 (IntKind.u8.wrap ((x.toNat : Int) * 2 ^ (min (n.toNat : Int).toNat 8)))))) = _
 rw [wr8, Int.toNat_natCast, shl_core8, eq_true (by omega : 0 ≤ (n.toNat : Int)), true_and]
 rfl
theorem b_shr8_32 (x : BitVec 8) (n : BitVec 32) : aBin .shr (u8 x) (u32 n) k = k (.raw (u8 (x >>> n.toNat))) := by
 show (0 ≤ (n.toNat : Int) ∧ k (.raw (.int .u8 ((x.toNat : Int).fdiv (2 ^ (min (n.toNat : Int).toNat 8)))))) = _
 rw [Int.toNat_natCast, shr_core8, eq_true (by omega : 0 ≤ (n.toNat : Int)), true_and]
 rfl
theorem b_shl8_64 (x : BitVec 8) (n : BitVec 64) : aBin .shl (u8 x) (u64 n) k = k (.raw (u8 (x <<< n.toNat))) := by
 show (0 ≤ (n.toNat : Int) ∧ k (.raw (.int .u8 (IntKind.u8.wrap ((x.toNat : Int) * 2 ^ (min (n.toNat : Int).toNat 8)))))) = _
 rw [wr8, Int.toNat_natCast, shl_core8, eq_true (by omega : 0 ≤ (n.toNat : Int)), true_and]
 rfl
theorem b_shr8_64 (x : BitVec 8) (n : BitVec 64) : aBin .shr (u8 x) (u64 n) k = k (.raw (u8 (x >>> n.toNat))) := by
 show (0 ≤ (n.toNat : Int) ∧ k (.raw (.int .u8 ((x.toNat : Int).fdiv (2 ^ (min (n.toNat : Int).toNat 8)))))) = _
 rw [Int.toNat_natCast, shr_core8, eq_true (by omega : 0 ≤ (n.toNat : Int)), true_and]
 rfl
theorem u_not8 (x : BitVec 8) : aUn .xor (u8 x) k = k (.raw (u8 (~~~x))) := by
 show k (.raw (.int .u8 (IntKind.u8.wrap (BitVec.ofInt IntKind.u8.bits (if IntKind.u8.signed then -1 else IntKind.u8.max) ^^^ BitVec.ofInt IntKind.u8.bits (x.toNat : Int)).toNat))) = _
 have h : BitVec.ofInt IntKind.u8.bits (if IntKind.u8.signed then -1 else IntKind.u8.max) = BitVec.allOnes 8 := by kernel_rfl
 rw [h, of8, wr8]
 have h2 : (BitVec.allOnes 8 ^^^ x) = ~~~x := BitVec.allOnes_xor
 show k (.raw (.int .u8 (((BitVec.allOnes 8 ^^^ x).toNat : Int) % 256))) = _
 rw [h2, id8]
 rfl
theorem wr32 (n : Int) : IntKind.u32.wrap n = n % 4294967296 := by
 unfold IntKind.wrap
 rw [if_neg (by simp [IntKind.signed])]
 rfl
theorem lt32 (x : BitVec 32) : (x.toNat : Int) < 4294967296 := by have := x.isLt; omega
theorem of32 (x : BitVec 32) : BitVec.ofInt IntKind.u32.bits (x.toNat : Int) = x := by rw [BitVec.ofInt_natCast]; exact (BitVec.ofNat_toNat (m := 32) (x := x)).trans (BitVec.setWidth_eq _)
theorem id32 (x : BitVec 32) : ((x.toNat : Int)) % 4294967296 = x.toNat := Int.emod_eq_of_lt (by omega) (lt32 x)
theorem b_add32 (x y : BitVec 32) : aBin .add (u32 x) (u32 y) k = k (.raw (u32 (x + y))) := by
 have h : ((x.toNat : Int) + y.toNat) % 4294967296 = ((x + y).toNat : Int) := by rw [BitVec.toNat_add]; omega
 show (IntKind.u32 = IntKind.u32 ∧ k (.raw (.int .u32 _))) = _
 rw [eq_self, true_and, wr32, h]
 rfl
theorem b_sub32 (x y : BitVec 32) : aBin .sub (u32 x) (u32 y) k = k (.raw (u32 (x - y))) := by
 have h : ((x.toNat : Int) - y.toNat) % 4294967296 = ((x - y).toNat : Int) := by
  have h1 := x.isLt
  have h2 := y.isLt
  rw [BitVec.toNat_sub]
  omega
 show (IntKind.u32 = IntKind.u32 ∧ k (.raw (.int .u32 _))) = _
 rw [eq_self, true_and, wr32, h]
 rfl
theorem b_mul32 (x y : BitVec 32) : aBin .mul (u32 x) (u32 y) k = k (.raw (u32 (x * y))) := by
 have h : ((x.toNat : Int) * y.toNat) % 4294967296 = ((x * y).toNat : Int) := by rw [BitVec.toNat_mul, Int.natCast_emod, Int.natCast_mul]; rfl
 show (IntKind.u32 = IntKind.u32 ∧ k (.raw (.int .u32 _))) = _
 rw [eq_self, true_and, wr32, h]
 rfl
theorem b_and32 (x y : BitVec 32) : aBin .and (u32 x) (u32 y) k = k (.raw (u32 (x &&& y))) := by
 have h : ((BitVec.ofInt IntKind.u32.bits (x.toNat : Int) &&& BitVec.ofInt IntKind.u32.bits (y.toNat : Int)).toNat : Int) % 4294967296 = ((x &&& y).toNat : Int) := by rw [of32, of32]; exact id32 _
 show (IntKind.u32 = IntKind.u32 ∧ k (.raw (.int .u32 _))) = _
 rw [eq_self, true_and, wr32, h]
 rfl
theorem b_or32 (x y : BitVec 32) : aBin .or (u32 x) (u32 y) k = k (.raw (u32 (x ||| y))) := by
 have h : ((BitVec.ofInt IntKind.u32.bits (x.toNat : Int) ||| BitVec.ofInt IntKind.u32.bits (y.toNat : Int)).toNat : Int) % 4294967296 = ((x ||| y).toNat : Int) := by rw [of32, of32]; exact id32 _
 show (IntKind.u32 = IntKind.u32 ∧ k (.raw (.int .u32 _))) = _
 rw [eq_self, true_and, wr32, h]
 rfl
theorem b_xor32 (x y : BitVec 32) : aBin .xor (u32 x) (u32 y) k = k (.raw (u32 (x ^^^ y))) := by
 have h : ((BitVec.ofInt IntKind.u32.bits (x.toNat : Int) ^^^ BitVec.ofInt IntKind.u32.bits (y.toNat : Int)).toNat : Int) % 4294967296 = ((x ^^^ y).toNat : Int) := by rw [of32, of32]; exact id32 _
 show (IntKind.u32 = IntKind.u32 ∧ k (.raw (.int .u32 _))) = _
 rw [eq_self, true_and, wr32, h]
 rfl
theorem b_andNot32 (x y : BitVec 32) : aBin .andNot (u32 x) (u32 y) k = k (.raw (u32 (x &&& ~~~y))) := by
 have h : ((BitVec.ofInt IntKind.u32.bits (x.toNat : Int) &&& ~~~BitVec.ofInt IntKind.u32.bits (y.toNat : Int)).toNat : Int) % 4294967296 = ((x &&& ~~~y).toNat : Int) := by rw [of32, of32]; exact id32 _
 show (IntKind.u32 = IntKind.u32 ∧ k (.raw (.int .u32 _))) = _
 rw [eq_self, true_and, wr32, h]
 rfl
theorem b_quo32 (x y : BitVec 32) : aBin .quo (u32 x) (u32 y) k = (y ≠ 0 ∧ k (.raw (u32 (x / y)))) := by
 have h0 : ((y.toNat : Int) ≠ 0) = (y ≠ 0) := propext ⟨fun h h2 => h (by rw [h2]; rfl), fun h h2 => h (BitVec.eq_of_toNat_eq (by simp; omega))⟩
 have h : ((x.toNat : Int).tdiv y.toNat) % 4294967296 = ((x / y).toNat : Int) := by
  rw [BitVec.toNat_udiv, Int.tdiv_eq_ediv_of_nonneg (by omega), ← Int.natCast_ediv, ← BitVec.toNat_udiv]
  exact id32 _
 show (IntKind.u32 = IntKind.u32 ∧ (y.toNat : Int) ≠ 0 ∧ k (.raw (.int .u32 _))) = _
 rw [eq_self, true_and, wr32, h, h0]
 rfl
theorem b_rem32 (x y : BitVec 32) : aBin .rem (u32 x) (u32 y) k = (y ≠ 0 ∧ k (.raw (u32 (x % y)))) := by
 have h0 : ((y.toNat : Int) ≠ 0) = (y ≠ 0) := propext ⟨fun h h2 => h (by rw [h2]; rfl), fun h h2 => h (BitVec.eq_of_toNat_eq (by simp; omega))⟩
 have h : ((x.toNat : Int).tmod y.toNat) = ((x % y).toNat : Int) := by
  rw [BitVec.toNat_umod, Int.tmod_eq_emod_of_nonneg (by omega), ← Int.natCast_emod]
 show (IntKind.u32 = IntKind.u32 ∧ (y.toNat : Int) ≠ 0 ∧ k (.raw (.int .u32 _))) = _
 rw [eq_self, true_and, h, h0]
 rfl
theorem b_eql32 (x y : BitVec 32) : aBin .eql (u32 x) (u32 y) k = k (.raw (.bool (decide (x = y)))) := by
 have h : decide ((x.toNat : Int) = y.toNat) = decide (x = y) := by
  apply decide_eq_decide.2
  exact ⟨fun h => BitVec.eq_of_toNat_eq (by omega), fun h => by rw [h]⟩
 show (IntKind.u32 = IntKind.u32 ∧ k (.raw (.bool (decide ((x.toNat : Int) = y.toNat))))) = _
 rw [eq_self, true_and, h]
theorem b_neq32 (x y : BitVec 32) : aBin .neq (u32 x) (u32 y) k = k (.raw (.bool (!decide (x = y)))) := by
 have h : decide ((x.toNat : Int) = y.toNat) = decide (x = y) := by
  apply decide_eq_decide.2
  exact ⟨fun h => BitVec.eq_of_toNat_eq (by omega), fun h => by rw [h]⟩
 show (IntKind.u32 = IntKind.u32 ∧ k (.raw (.bool (!decide ((x.toNat : Int) = y.toNat))))) = _
 rw [eq_self, true_and, h]
theorem b_lss32 (x y : BitVec 32) : aBin .lss (u32 x) (u32 y) k = k (.raw (.bool (decide (x < y)))) := by
 have h : decide ((x.toNat : Int) < y.toNat) = decide (x < y) := by
  apply decide_eq_decide.2
  exact by rw [BitVec.lt_def]; omega
 show (IntKind.u32 = IntKind.u32 ∧ k (.raw (.bool (decide ((x.toNat : Int) < y.toNat))))) = _
 rw [eq_self, true_and, h]
theorem b_leq32 (x y : BitVec 32) : aBin .leq (u32 x) (u32 y) k = k (.raw (.bool (decide (x ≤ y)))) := by
 have h : decide ((x.toNat : Int) ≤ y.toNat) = decide (x ≤ y) := by
  apply decide_eq_decide.2
  exact by rw [BitVec.le_def]; omega
 show (IntKind.u32 = IntKind.u32 ∧ k (.raw (.bool (decide ((x.toNat : Int) ≤ y.toNat))))) = _
 rw [eq_self, true_and, h]
theorem b_gtr32 (x y : BitVec 32) : aBin .gtr (u32 x) (u32 y) k = k (.raw (.bool (decide (y < x)))) := by
 have h : decide ((y.toNat : Int) < x.toNat) = decide (y < x) := by
  apply decide_eq_decide.2
  exact by rw [BitVec.lt_def]; omega
 show (IntKind.u32 = IntKind.u32 ∧ k (.raw (.bool (decide ((y.toNat : Int) < x.toNat))))) = _
 rw [eq_self, true_and, h]
theorem b_geq32 (x y : BitVec 32) : aBin .geq (u32 x) (u32 y) k = k (.raw (.bool (decide (y ≤ x)))) := by
 have h : decide ((y.toNat : Int) ≤ x.toNat) = decide (y ≤ x) := by
  apply decide_eq_decide.2
  exact by rw [BitVec.le_def]; omega
 show (IntKind.u32 = IntKind.u32 ∧ k (.raw (.bool (decide ((y.toNat : Int) ≤ x.toNat))))) = _
 rw [eq_self, true_and, h]
theorem shl_core32 (x : BitVec 32) (c : Nat) : ((x.toNat : Int) * 2 ^ (min c 32)) % 4294967296 = ((x <<< c).toNat : Int) := by
 rw [BitVec.toNat_shiftLeft, Nat.shiftLeft_eq]
 rcases Nat.le_total c 32 with h | h
 ·rw [Nat.min_eq_left h, Int.natCast_emod, Int.natCast_mul, Int.natCast_pow]; rfl
 ·rw [Nat.min_eq_right h]
  have h1 : 2 ^ c = 2 ^ (c - 32) * 2 ^ 32 := by rw [← Nat.pow_add]; congr 1; omega
  rw [h1, ← Nat.mul_assoc, Nat.mul_mod_left]
  exact Int.mul_emod_left _ _
theorem shr_core32 (x : BitVec 32) (c : Nat) : (x.toNat : Int).fdiv (2 ^ (min c 32)) = ((x >>> c).toNat : Int) := by
 rw [BitVec.toNat_ushiftRight, Nat.shiftRight_eq_div_pow]
 have hp : ((2 : Int) ^ (min c 32)) = ((2 ^ (min c 32) : Nat) : Int) := by norm_cast
 rw [hp, Int.fdiv_eq_ediv_of_nonneg _ (Int.natCast_nonneg _), ← Int.natCast_ediv]
 congr 1
 rcases Nat.le_total c 32 with h | h
 ·rw [Nat.min_eq_left h]
 ·rw [Nat.min_eq_right h]
  have h0 := x.isLt
  rw [Nat.div_eq_of_lt h0, Nat.div_eq_of_lt (Nat.lt_of_lt_of_le h0 (Nat.pow_le_pow_right (by omega) h))]
theorem b_shl32_it (x : BitVec 32) (n : Int) : aBin .shl (u32 x) (it n) k = (0 ≤ n ∧ k (.raw (u32 (x <<< n.toNat)))) := by
 show (0 ≤ n ∧ k (.raw (.int .u32 (IntKind.u32.wrap ((x.toNat : Int) * 2 ^ (min n.toNat 32)))))) = _
 rw [wr32, shl_core32]
 rfl
theorem b_shr32_it (x : BitVec 32) (n : Int) : aBin .shr (u32 x) (it n) k = (0 ≤ n ∧ k (.raw (u32 (x >>> n.toNat)))) := by
 show (0 ≤ n ∧ k (.raw (.int .u32 ((x.toNat : Int).fdiv (2 ^ (min n.toNat 32)))))) = _
 rw [shr_core32]
 rfl
theorem b_shl32_8 (x : BitVec 32) (n : BitVec 8) : aBin .shl (u32 x) (u8 n) k = k (.raw (u32 (x <<< n.toNat))) := by
 show (0 ≤ (n.toNat : Int) ∧ k (.raw (.int .u32 (IntKind.u32.wrap ((x.toNat : Int) * 2 ^ (min (n.toNat : Int).toNat 32)))))) = _
 rw [wr32, Int.toNat_natCast, shl_core32, eq_true (by omega : 0 ≤ (n.toNat : Int)), true_and]
 rfl
theorem b_shr32_8 (x : BitVec 32) (n : BitVec 8) : aBin .shr (u32 x) (u8 n) k = k (.raw (u32 (x >>> n.toNat))) := by
 show (0 ≤ (n.toNat : Int) ∧ k (.raw (.int .u32 ((x.toNat : Int).fdiv (2 ^ (min (n.toNat : Int).toNat 32)))))) = _
 rw [Int.toNat_natCast, shr_core32, eq_true (by omega : 0 ≤ (n.toNat : Int)), true_and]
 rfl
theorem b_shl32_32 (x : BitVec 32) (n : BitVec 32) : aBin .shl (u32 x) (u32 n) k = k (.raw (u32 (x <<< n.toNat))) := by
 show (0 ≤ (n.toNat : Int) ∧ k (.raw (.int .u32 (IntKind.u32.wrap ((x.toNat : Int) * 2 ^ (min (n.toNat : Int).toNat 32)))))) = _
 rw [wr32, Int.toNat_natCast, shl_core32, eq_true (by omega : 0 ≤ (n.toNat : Int)), true_and]
 rfl
theorem b_shr32_32 (x : BitVec 32) (n : BitVec 32) : aBin .shr (u32 x) (u32 n) k = k (.raw (u32 (x >>> n.toNat))) := by
 show (0 ≤ (n.toNat : Int) ∧ k (.raw (.int .u32 ((x.toNat : Int).fdiv (2 ^ (min (n.toNat : Int).toNat 32)))))) = _
 rw [Int.toNat_natCast, shr_core32, eq_true (by omega : 0 ≤ (n.toNat : Int)), true_and]
 rfl
theorem b_shl32_64 (x : BitVec 32) (n : BitVec 64) : aBin .shl (u32 x) (u64 n) k = k (.raw (u32 (x <<< n.toNat))) := by
 show (0 ≤ (n.toNat : Int) ∧ k (.raw (.int .u32 (IntKind.u32.wrap ((x.toNat : Int) * 2 ^ (min (n.toNat : Int).toNat 32)))))) = _
 rw [wr32, Int.toNat_natCast, shl_core32, eq_true (by omega : 0 ≤ (n.toNat : Int)), true_and]
 rfl
theorem b_shr32_64 (x : BitVec 32) (n : BitVec 64) : aBin .shr (u32 x) (u64 n) k = k (.raw (u32 (x >>> n.toNat))) := by
 show (0 ≤ (n.toNat : Int) ∧ k (.raw (.int .u32 ((x.toNat : Int).fdiv (2 ^ (min (n.toNat : Int).toNat 32)))))) = _
 rw [Int.toNat_natCast, shr_core32, eq_true (by omega : 0 ≤ (n.toNat : Int)), true_and]
 rfl
theorem u_not32 (x : BitVec 32) : aUn .xor (u32 x) k = k (.raw (u32 (~~~x))) := by
 show k (.raw (.int .u32 (IntKind.u32.wrap (BitVec.ofInt IntKind.u32.bits (if IntKind.u32.signed then -1 else IntKind.u32.max) ^^^ BitVec.ofInt IntKind.u32.bits (x.toNat : Int)).toNat))) = _
 have h : BitVec.ofInt IntKind.u32.bits (if IntKind.u32.signed then -1 else IntKind.u32.max) = BitVec.allOnes 32 := by kernel_rfl
 rw [h, of32, wr32]
 have h2 : (BitVec.allOnes 32 ^^^ x) = ~~~x := BitVec.allOnes_xor
 show k (.raw (.int .u32 (((BitVec.allOnes 32 ^^^ x).toNat : Int) % 4294967296))) = _
 rw [h2, id32]
 rfl
theorem wr64 (n : Int) : IntKind.u64.wrap n = n % 18446744073709551616 := by
 unfold IntKind.wrap
 rw [if_neg (by simp [IntKind.signed])]
 rfl
theorem lt64 (x : BitVec 64) : (x.toNat : Int) < 18446744073709551616 := by have := x.isLt; omega
theorem of64 (x : BitVec 64) : BitVec.ofInt IntKind.u64.bits (x.toNat : Int) = x := by rw [BitVec.ofInt_natCast]; exact (BitVec.ofNat_toNat (m := 64) (x := x)).trans (BitVec.setWidth_eq _)
theorem id64 (x : BitVec 64) : ((x.toNat : Int)) % 18446744073709551616 = x.toNat := Int.emod_eq_of_lt (by omega) (lt64 x)
theorem b_add64 (x y : BitVec 64) : aBin .add (u64 x) (u64 y) k = k (.raw (u64 (x + y))) := by
 have h : ((x.toNat : Int) + y.toNat) % 18446744073709551616 = ((x + y).toNat : Int) := by rw [BitVec.toNat_add]; omega
 show (IntKind.u64 = IntKind.u64 ∧ k (.raw (.int .u64 _))) = _
 rw [eq_self, true_and, wr64, h]
 rfl
theorem b_sub64 (x y : BitVec 64) : aBin .sub (u64 x) (u64 y) k = k (.raw (u64 (x - y))) := by
 have h : ((x.toNat : Int) - y.toNat) % 18446744073709551616 = ((x - y).toNat : Int) := by
  have h1 := x.isLt
  have h2 := y.isLt
  rw [BitVec.toNat_sub]
  omega
 show (IntKind.u64 = IntKind.u64 ∧ k (.raw (.int .u64 _))) = _
 rw [eq_self, true_and, wr64, h]
 rfl
theorem b_mul64 (x y : BitVec 64) : aBin .mul (u64 x) (u64 y) k = k (.raw (u64 (x * y))) := by
 have h : ((x.toNat : Int) * y.toNat) % 18446744073709551616 = ((x * y).toNat : Int) := by rw [BitVec.toNat_mul, Int.natCast_emod, Int.natCast_mul]; rfl
 show (IntKind.u64 = IntKind.u64 ∧ k (.raw (.int .u64 _))) = _
 rw [eq_self, true_and, wr64, h]
 rfl
theorem b_and64 (x y : BitVec 64) : aBin .and (u64 x) (u64 y) k = k (.raw (u64 (x &&& y))) := by
 have h : ((BitVec.ofInt IntKind.u64.bits (x.toNat : Int) &&& BitVec.ofInt IntKind.u64.bits (y.toNat : Int)).toNat : Int) % 18446744073709551616 = ((x &&& y).toNat : Int) := by rw [of64, of64]; exact id64 _
 show (IntKind.u64 = IntKind.u64 ∧ k (.raw (.int .u64 _))) = _
 rw [eq_self, true_and, wr64, h]
 rfl
theorem b_or64 (x y : BitVec 64) : aBin .or (u64 x) (u64 y) k = k (.raw (u64 (x ||| y))) := by
 have h : ((BitVec.ofInt IntKind.u64.bits (x.toNat : Int) ||| BitVec.ofInt IntKind.u64.bits (y.toNat : Int)).toNat : Int) % 18446744073709551616 = ((x ||| y).toNat : Int) := by rw [of64, of64]; exact id64 _
 show (IntKind.u64 = IntKind.u64 ∧ k (.raw (.int .u64 _))) = _
 rw [eq_self, true_and, wr64, h]
 rfl
theorem b_xor64 (x y : BitVec 64) : aBin .xor (u64 x) (u64 y) k = k (.raw (u64 (x ^^^ y))) := by
 have h : ((BitVec.ofInt IntKind.u64.bits (x.toNat : Int) ^^^ BitVec.ofInt IntKind.u64.bits (y.toNat : Int)).toNat : Int) % 18446744073709551616 = ((x ^^^ y).toNat : Int) := by rw [of64, of64]; exact id64 _
 show (IntKind.u64 = IntKind.u64 ∧ k (.raw (.int .u64 _))) = _
 rw [eq_self, true_and, wr64, h]
 rfl
theorem b_andNot64 (x y : BitVec 64) : aBin .andNot (u64 x) (u64 y) k = k (.raw (u64 (x &&& ~~~y))) := by
 have h : ((BitVec.ofInt IntKind.u64.bits (x.toNat : Int) &&& ~~~BitVec.ofInt IntKind.u64.bits (y.toNat : Int)).toNat : Int) % 18446744073709551616 = ((x &&& ~~~y).toNat : Int) := by rw [of64, of64]; exact id64 _
 show (IntKind.u64 = IntKind.u64 ∧ k (.raw (.int .u64 _))) = _
 rw [eq_self, true_and, wr64, h]
 rfl
theorem b_quo64 (x y : BitVec 64) : aBin .quo (u64 x) (u64 y) k = (y ≠ 0 ∧ k (.raw (u64 (x / y)))) := by
 have h0 : ((y.toNat : Int) ≠ 0) = (y ≠ 0) := propext ⟨fun h h2 => h (by rw [h2]; rfl), fun h h2 => h (BitVec.eq_of_toNat_eq (by simp; omega))⟩
 have h : ((x.toNat : Int).tdiv y.toNat) % 18446744073709551616 = ((x / y).toNat : Int) := by
  rw [BitVec.toNat_udiv, Int.tdiv_eq_ediv_of_nonneg (by omega), ← Int.natCast_ediv, ← BitVec.toNat_udiv]
  exact id64 _
 show (IntKind.u64 = IntKind.u64 ∧ (y.toNat : Int) ≠ 0 ∧ k (.raw (.int .u64 _))) = _
 rw [eq_self, true_and, wr64, h, h0]
 rfl
theorem b_rem64 (x y : BitVec 64) : aBin .rem (u64 x) (u64 y) k = (y ≠ 0 ∧ k (.raw (u64 (x % y)))) := by
 have h0 : ((y.toNat : Int) ≠ 0) = (y ≠ 0) := propext ⟨fun h h2 => h (by rw [h2]; rfl), fun h h2 => h (BitVec.eq_of_toNat_eq (by simp; omega))⟩
 have h : ((x.toNat : Int).tmod y.toNat) = ((x % y).toNat : Int) := by
  rw [BitVec.toNat_umod, Int.tmod_eq_emod_of_nonneg (by omega), ← Int.natCast_emod]
 show (IntKind.u64 = IntKind.u64 ∧ (y.toNat : Int) ≠ 0 ∧ k (.raw (.int .u64 _))) = _
 rw [eq_self, true_and, h, h0]
 rfl
theorem b_eql64 (x y : BitVec 64) : aBin .eql (u64 x) (u64 y) k = k (.raw (.bool (decide (x = y)))) := by
 have h : decide ((x.toNat : Int) = y.toNat) = decide (x = y) := by
  apply decide_eq_decide.2
  exact ⟨fun h => BitVec.eq_of_toNat_eq (by omega), fun h => by rw [h]⟩
 show (IntKind.u64 = IntKind.u64 ∧ k (.raw (.bool (decide ((x.toNat : Int) = y.toNat))))) = _
 rw [eq_self, true_and, h]
theorem b_neq64 (x y : BitVec 64) : aBin .neq (u64 x) (u64 y) k = k (.raw (.bool (!decide (x = y)))) := by
 have h : decide ((x.toNat : Int) = y.toNat) = decide (x = y) := by
  apply decide_eq_decide.2
  exact ⟨fun h => BitVec.eq_of_toNat_eq (by omega), fun h => by rw [h]⟩
 show (IntKind.u64 = IntKind.u64 ∧ k (.raw (.bool (!decide ((x.toNat : Int) = y.toNat))))) = _
 rw [eq_self, true_and, h]
theorem b_lss64 (x y : BitVec 64) : aBin .lss (u64 x) (u64 y) k = k (.raw (.bool (decide (x < y)))) := by
 have h : decide ((x.toNat : Int) < y.toNat) = decide (x < y) := by
  apply decide_eq_decide.2
  exact by rw [BitVec.lt_def]; omega
 show (IntKind.u64 = IntKind.u64 ∧ k (.raw (.bool (decide ((x.toNat : Int) < y.toNat))))) = _
 rw [eq_self, true_and, h]
theorem b_leq64 (x y : BitVec 64) : aBin .leq (u64 x) (u64 y) k = k (.raw (.bool (decide (x ≤ y)))) := by
 have h : decide ((x.toNat : Int) ≤ y.toNat) = decide (x ≤ y) := by
  apply decide_eq_decide.2
  exact by rw [BitVec.le_def]; omega
 show (IntKind.u64 = IntKind.u64 ∧ k (.raw (.bool (decide ((x.toNat : Int) ≤ y.toNat))))) = _
 rw [eq_self, true_and, h]
theorem b_gtr64 (x y : BitVec 64) : aBin .gtr (u64 x) (u64 y) k = k (.raw (.bool (decide (y < x)))) := by
 have h : decide ((y.toNat : Int) < x.toNat) = decide (y < x) := by
  apply decide_eq_decide.2
  exact by rw [BitVec.lt_def]; omega
 show (IntKind.u64 = IntKind.u64 ∧ k (.raw (.bool (decide ((y.toNat : Int) < x.toNat))))) = _
 rw [eq_self, true_and, h]
theorem b_geq64 (x y : BitVec 64) : aBin .geq (u64 x) (u64 y) k = k (.raw (.bool (decide (y ≤ x)))) := by
 have h : decide ((y.toNat : Int) ≤ x.toNat) = decide (y ≤ x) := by
  apply decide_eq_decide.2
  exact by rw [BitVec.le_def]; omega
 show (IntKind.u64 = IntKind.u64 ∧ k (.raw (.bool (decide ((y.toNat : Int) ≤ x.toNat))))) = _
 rw [eq_self, true_and, h]
theorem shl_core64 (x : BitVec 64) (c : Nat) : ((x.toNat : Int) * 2 ^ (min c 64)) % 18446744073709551616 = ((x <<< c).toNat : Int) := by
 rw [BitVec.toNat_shiftLeft, Nat.shiftLeft_eq]
 rcases Nat.le_total c 64 with h | h
 ·rw [Nat.min_eq_left h, Int.natCast_emod, Int.natCast_mul, Int.natCast_pow]; rfl
 ·rw [Nat.min_eq_right h]
  have h1 : 2 ^ c = 2 ^ (c - 64) * 2 ^ 64 := by rw [← Nat.pow_add]; congr 1; omega
  rw [h1, ← Nat.mul_assoc, Nat.mul_mod_left]
  exact Int.mul_emod_left _ _
theorem shr_core64 (x : BitVec 64) (c : Nat) : (x.toNat : Int).fdiv (2 ^ (min c 64)) = ((x >>> c).toNat : Int) := by
 rw [BitVec.toNat_ushiftRight, Nat.shiftRight_eq_div_pow]
 have hp : ((2 : Int) ^ (min c 64)) = ((2 ^ (min c 64) : Nat) : Int) := by norm_cast
 rw [hp, Int.fdiv_eq_ediv_of_nonneg _ (Int.natCast_nonneg _), ← Int.natCast_ediv]
 congr 1
 rcases Nat.le_total c 64 with h | h
 ·rw [Nat.min_eq_left h]
 ·rw [Nat.min_eq_right h]
  have h0 := x.isLt
  rw [Nat.div_eq_of_lt h0, Nat.div_eq_of_lt (Nat.lt_of_lt_of_le h0 (Nat.pow_le_pow_right (by omega) h))]
theorem b_shl64_it (x : BitVec 64) (n : Int) : aBin .shl (u64 x) (it n) k = (0 ≤ n ∧ k (.raw (u64 (x <<< n.toNat)))) := by
 show (0 ≤ n ∧ k (.raw (.int .u64 (IntKind.u64.wrap ((x.toNat : Int) * 2 ^ (min n.toNat 64)))))) = _
 rw [wr64, shl_core64]
 rfl
theorem b_shr64_it (x : BitVec 64) (n : Int) : aBin .shr (u64 x) (it n) k = (0 ≤ n ∧ k (.raw (u64 (x >>> n.toNat)))) := by
 show (0 ≤ n ∧ k (.raw (.int .u64 ((x.toNat : Int).fdiv (2 ^ (min n.toNat 64)))))) = _
 rw [shr_core64]
 rfl
theorem b_shl64_8 (x : BitVec 64) (n : BitVec 8) : aBin .shl (u64 x) (u8 n) k = k (.raw (u64 (x <<< n.toNat))) := by
 show (0 ≤ (n.toNat : Int) ∧ k (.raw (.int .u64 (IntKind.u64.wrap ((x.toNat : Int) * 2 ^ (min (n.toNat : Int).toNat 64)))))) = _
 rw [wr64, Int.toNat_natCast, shl_core64, eq_true (by omega : 0 ≤ (n.toNat : Int)), true_and]
 rfl
theorem b_shr64_8 (x : BitVec 64) (n : BitVec 8) : aBin .shr (u64 x) (u8 n) k = k (.raw (u64 (x >>> n.toNat))) := by
 show (0 ≤ (n.toNat : Int) ∧ k (.raw (.int .u64 ((x.toNat : Int).fdiv (2 ^ (min (n.toNat : Int).toNat 64)))))) = _
 rw [Int.toNat_natCast, shr_core64, eq_true (by omega : 0 ≤ (n.toNat : Int)), true_and]
 rfl
theorem b_shl64_32 (x : BitVec 64) (n : BitVec 32) : aBin .shl (u64 x) (u32 n) k = k (.raw (u64 (x <<< n.toNat))) := by
 show (0 ≤ (n.toNat : Int) ∧ k (.raw (.int .u64 (IntKind.u64.wrap ((x.toNat : Int) * 2 ^ (min (n.toNat : Int).toNat 64)))))) = _
 rw [wr64, Int.toNat_natCast, shl_core64, eq_true (by omega : 0 ≤ (n.toNat : Int)), true_and]
 rfl
theorem b_shr64_32 (x : BitVec 64) (n : BitVec 32) : aBin .shr (u64 x) (u32 n) k = k (.raw (u64 (x >>> n.toNat))) := by
 show (0 ≤ (n.toNat : Int) ∧ k (.raw (.int .u64 ((x.toNat : Int).fdiv (2 ^ (min (n.toNat : Int).toNat 64)))))) = _
 rw [Int.toNat_natCast, shr_core64, eq_true (by omega : 0 ≤ (n.toNat : Int)), true_and]
 rfl
theorem b_shl64_64 (x : BitVec 64) (n : BitVec 64) : aBin .shl (u64 x) (u64 n) k = k (.raw (u64 (x <<< n.toNat))) := by
 show (0 ≤ (n.toNat : Int) ∧ k (.raw (.int .u64 (IntKind.u64.wrap ((x.toNat : Int) * 2 ^ (min (n.toNat : Int).toNat 64)))))) = _
 rw [wr64, Int.toNat_natCast, shl_core64, eq_true (by omega : 0 ≤ (n.toNat : Int)), true_and]
 rfl
theorem b_shr64_64 (x : BitVec 64) (n : BitVec 64) : aBin .shr (u64 x) (u64 n) k = k (.raw (u64 (x >>> n.toNat))) := by
 show (0 ≤ (n.toNat : Int) ∧ k (.raw (.int .u64 ((x.toNat : Int).fdiv (2 ^ (min (n.toNat : Int).toNat 64)))))) = _
 rw [Int.toNat_natCast, shr_core64, eq_true (by omega : 0 ≤ (n.toNat : Int)), true_and]
 rfl
theorem u_not64 (x : BitVec 64) : aUn .xor (u64 x) k = k (.raw (u64 (~~~x))) := by
 show k (.raw (.int .u64 (IntKind.u64.wrap (BitVec.ofInt IntKind.u64.bits (if IntKind.u64.signed then -1 else IntKind.u64.max) ^^^ BitVec.ofInt IntKind.u64.bits (x.toNat : Int)).toNat))) = _
 have h : BitVec.ofInt IntKind.u64.bits (if IntKind.u64.signed then -1 else IntKind.u64.max) = BitVec.allOnes 64 := by kernel_rfl
 rw [h, of64, wr64]
 have h2 : (BitVec.allOnes 64 ^^^ x) = ~~~x := BitVec.allOnes_xor
 show k (.raw (.int .u64 (((BitVec.allOnes 64 ^^^ x).toNat : Int) % 18446744073709551616))) = _
 rw [h2, id64]
 rfl
theorem b_addi (a b : Int) : aBin .add (it a) (it b) k = k (.raw (it (wz (a + b)))) := by simp only [aBin, it, true_and]; rfl
theorem b_subi (a b : Int) : aBin .sub (it a) (it b) k = k (.raw (it (wz (a - b)))) := by simp only [aBin, it, true_and]; rfl
theorem b_muli (a b : Int) : aBin .mul (it a) (it b) k = k (.raw (it (wz (a * b)))) := by simp only [aBin, it, true_and]; rfl
theorem b_quoi (a b : Int) : aBin .quo (it a) (it b) k = (b ≠ 0 ∧ k (.raw (it (wz (a.tdiv b))))) := by simp only [aBin, it, true_and]; rfl
theorem b_remi (a b : Int) : aBin .rem (it a) (it b) k = (b ≠ 0 ∧ k (.raw (it (a.tmod b)))) := by simp only [aBin, it, true_and]
theorem b_eqli (a b : Int) : aBin .eql (it a) (it b) k = k (.raw (.bool (decide (a = b)))) := by simp only [aBin, it, true_and]
theorem b_lssi (a b : Int) : aBin .lss (it a) (it b) k = k (.raw (.bool (decide (a < b)))) := by simp only [aBin, it, true_and]
theorem b_leqi (a b : Int) : aBin .leq (it a) (it b) k = k (.raw (.bool (decide (a ≤ b)))) := by simp only [aBin, it, true_and]
theorem b_gtri (a b : Int) : aBin .gtr (it a) (it b) k = k (.raw (.bool (decide (b < a)))) := by simp only [aBin, it, true_and]
theorem b_geqi (a b : Int) : aBin .geq (it a) (it b) k = k (.raw (.bool (decide (b ≤ a)))) := by simp only [aBin, it, true_and]
theorem b_neqi (a b : Int) : aBin .neq (it a) (it b) k = k (.raw (.bool (!decide (a = b)))) := by simp only [aBin, it, true_and]
theorem b_adds (a b : ByteArray) : aBin .add (.string a) (.string b) k = (((a.size + b.size : Nat) : Int) ≤ IntKind.i64.max ∧ k (.raw (.string (a ++ b)))) := Eq.trans rfl rfl
theorem b_eqls (a b : ByteArray) : aBin .eql (.string a) (.string b) k = k (.raw (.bool (a.toList == b.toList))) := Eq.trans rfl rfl
theorem b_neqs (a b : ByteArray) : aBin .neq (.string a) (.string b) k = k (.raw (.bool (!(a.toList == b.toList)))) := Eq.trans rfl rfl
theorem u_notb (b : Bool) : aUn .not (.bool b) k = k (.raw (.bool !b)) := Eq.trans rfl rfl
theorem u_negi (n : Int) : aUn .neg (it n) k = k (.raw (it (wz (0 - n)))) := Eq.trans rfl rfl
end bins
end Go.Am
