/- The bridge: a law's row from its contract over data. -/
import Derived.Test.YtloclegkilgglaaAm27
import Derived.WalkKit
import Derived.ProofKit
import Derived.JoinedCond
import Derived.Carry
namespace Go.Am
open Go.ChangeShapes Go.WideShapes Go.ChangeAt Go.RowKit
set_option linter.unusedVariables false
set_option linter.unusedSimpArgs false

theorem Step.below {ρ ρ' : Pl} {T T' : Nat → Prop} {rows' : Rows} {w w' : World} (h : Step ρ T [] w ρ' T' rows' w') : Below w.heap.size w w' :=
  ⟨h.os, h.tape, h.output, h.size, fun k hk => h.keep k hk (by intro r row L h1; simp [live] at h1)⟩

section
variable {H : Type} {enc : TypeId × Value → H} {P : Program}
theorem post_below {f : Func} {s : ChangeSpec} {apart fresh handsOn again : Bool} {W W' : World} {args : Array Value} {v : Value} {ds gs : List (DataW H)} {before pa pv : List MemPlace}
    (hW : DataW.Whole enc P f.params.toList s.vars apart W args.toList ds gs before)
    (hres : ∀ (b : Nat) (sp : Nat → Bool) (hd : Bool), DataW.TrodAll enc P W' b sp hd f.resultTypes.toList (v.resultList f.resultTypes.size) (s.fn H (ds ++ gs)).results [])
    (hargs : ∀ sp : Nat → Bool, (∀ p ∈ before, sp p.block = true) → DataW.TrodAll enc P W' 0 sp true f.params.toList args.toList (s.fn H (ds ++ gs)).args pa)
    (hvars : ∀ sp : Nat → Bool, (∀ p ∈ before, sp p.block = true) → DataW.TrodVars enc P W' sp s.vars (s.fn H (ds ++ gs)).vars pv)
    (hps : before = pa ++ pv) (hb : Below W.heap.size W W')
    (hok : ∀ (j : Nat) (t : TypeId) (r : Value), f.resultTypes[j]? = some t → (v.resultList f.resultTypes.size)[j]? = some r → Value.okWide P W' .any 0 t r) :
    s.post enc P f apart fresh handsOn again W args v W' := by
  have hlt : ∀ p ∈ before, p.block < W.heap.size := fun p hp => hW.lt p hp
  have hold : ∀ p ∈ before, (fun b => decide (b < W.heap.size)) p.block = true := fun p hp => by simpa using hlt p hp
  refine ⟨ds, gs, before, [], pa, pv, hW, hres _ _ _, hargs _ hold, hvars _ hold, World.keptBut_mono (fun p hp => ⟨hp, ?_⟩) (hb.frame (· ∈ before)), fun _ => ?_⟩
  · rw [hps, List.mem_append] at hp
    exact Or.inr hp
  · obtain ⟨_, _, _, _, _, hz, hn⟩ := hW
    refine ⟨hok, _, _, ([] ++ pa) ++ pv, ⟨[] ++ pa, pv, trodAll_append (hargs _ (fun _ _ => rfl)) (hres _ _ _), hvars _ (fun _ _ => rfl), rfl, ?_, ?_⟩, ?_⟩
    · intro b off hp
      have hin : MemPlace.cell b off ∈ before := by rw [hps]; simpa using hp
      rw [hb.frozen (hlt _ hin)]
      exact hz b off hin
    · intro ha
      have := hn ha
      rw [hps] at this
      simpa using this
    · intro p hp _
      rw [hps]
      simpa using hp

/-- the arguments as data -/
theorem args_D {n : Nat} {base : Nat} {W : World} : ∀ {ts : List TypeId} {vs : List Value} {ds : List (DataW H)} {p : List MemPlace}, DataW.TrodAll enc P W 0 (fun _ => true) true ts vs ds p →
    (∀ (j : Nat) t v, ts[j]? = some t → vs[j]? = some v → Value.okWide P W .any base t v) → (∀ t ∈ ts, (tyX P n t).isSome = true) →
    ∃ dd, All2 (fun t d => DOf P n t d) ts dd ∧ All2 (VR noPl W (old W)) dd vs ∧ dbulkL dd ≤ Go.Proofs.Ytloclegkilgglaa.Rows.uptoBulkAll ds
  | [], vs, ds, p, h, _, _ => by
    obtain ⟨rfl, rfl, rfl⟩ := trodAll_nil h
    exact ⟨[], .nil, .nil, by simp [dbulkL]⟩
  | t :: ts, vs, ds, p, h, hv, ht => by
    obtain ⟨v, vs1, d, ds1, a, b, rfl, rfl, rfl, h1, h2⟩ := trodAll_cons h
    obtain ⟨fuel, hf⟩ := h1
    obtain ⟨s, hs⟩ := Option.isSome_iff_exists.1 (ht t (by simp))
    obtain ⟨d', g1, g2, g3⟩ := arg_D (hv 0 t v rfl rfl) hf hs
    obtain ⟨dd, q1, q2, q3⟩ := args_D h2 (fun j t' v' h3 h4 => hv (j + 1) t' v' (by simpa using h3) (by simpa using h4)) (fun t' h3 => ht t' (by simp [h3]))
    exact ⟨d' :: dd, .cons g1 q1, .cons g2 q2, by simp only [dbulkL, Go.Proofs.Ytloclegkilgglaa.Rows.uptoBulkAll] at *; omega⟩

theorem args_back {W W' : World} (hl : laidOutB P = true) (hb : Below W.heap.size W W') {sp : Nat → Bool} : ∀ {ts : List TypeId} {vs : List Value} {ds : List (DataW H)} {p : List MemPlace}, DataW.TrodAll enc P W 0 (fun _ => true) true ts vs ds p →
    (∀ t ∈ ts, P.readableRec t = true ∧ t < P.types.size) → (∀ x ∈ p, x.block < W.heap.size) → (∀ x ∈ p, sp x.block = true) → DataW.TrodAll enc P W' 0 sp true ts vs ds p
  | [], vs, ds, p, h, _, _, _ => by
    obtain ⟨rfl, rfl, rfl⟩ := trodAll_nil h
    exact rfl
  | t :: ts, vs, ds, p, h, ht, hlt, hs => by
    obtain ⟨v, vs1, d, ds1, a, b, rfl, rfl, rfl, h1, h2⟩ := trodAll_cons h
    obtain ⟨r1, r2⟩ := ht t (by simp)
    exact ⟨a, b, WideElems.Trod_stays hl r1 r2 h1 (fun x hx => hb.same (hlt x (by simp [hx]))) (fun x hx => hs x (by simp [hx])), args_back hl hb h2 (fun t' h3 => ht t' (by simp [h3])) (fun x hx => hlt x (by simp [hx])) (fun x hx => hs x (by simp [hx])), rfl⟩

/-- a law's contract: what its row asks -/
theorem row_contract {f : FuncId} {fn : Func} {spec : ChangeSpec} {A : AFun} {n : Nat} {tb : TypeId} {G : Nat → Option D} (hA : Meets G P f A) (hl : laidOutB P = true)
    (hty : (fn.params.toList.all fun t => (tyX P n t).isSome && P.readableRec t && decide (t < P.types.size)) = true)
    (hvars : spec.vars = []) (hres : fn.resultTypes = #[tb]) (htb : P.underlying tb = some .bool)
    (hspec : ∀ ds : List (DataW H), ds.length = fn.params.toList.length → spec.fn H ds = { results := [.lit (.bool true)], args := ds })
    {W : World} {base : Nat} {args : Array Value} {ds gs : List (DataW H)} {before : List MemPlace}
    (hlaw : ∀ dd, All2 (fun t d => DOf P n t d) fn.params.toList dd → dbulkL dd ≤ Go.Proofs.Ytloclegkilgglaa.Rows.uptoBulkAll (ds ++ gs) → ∃ dd', All2 Nrm dd dd' ∧ A dd' [] (fun d _ => d = .raw (.bool true)))
    (hval : ∀ (j : Nat) t v, fn.params[j]? = some t → args[j]? = some v → Value.okWide P W .any base t v)
    (hW : DataW.Whole enc P fn.params.toList spec.vars false W args.toList ds gs before) (hG : ∀ g d, G g = some d → LR noPl W (old W) (.cptr d) (.pointer (some ⟨g, 0, none⟩))) :
    Calls P f args W fun e W' => ∃ v, e = .returned v ∧ spec.post enc P fn false true false false W args v W' := by
  have hW' := hW
  obtain ⟨p, q, hA0, hV, rfl, hfz, hnd⟩ := hW
  rw [hvars] at hV
  obtain ⟨rfl, rfl⟩ := trodVars_none hV
  have hty' : ∀ t ∈ fn.params.toList, (tyX P n t).isSome = true ∧ P.readableRec t = true ∧ t < P.types.size := by
    intro t ht
    have := List.all_eq_true.1 hty t ht
    simp only [Bool.and_eq_true, decide_eq_true_eq] at this
    exact ⟨this.1.1, this.1.2, this.2⟩
  obtain ⟨dd, g1, g2, g3⟩ := args_D (n := n) (base := base) hA0 (fun j t v h1 h2 => hval j t v (by simpa using h1) (by simpa using h2)) (fun t ht => (hty' t ht).1)
  rw [List.append_nil] at hlaw
  have hlt : ∀ x ∈ p, x.block < W.heap.size := fun x hx => hW'.lt x (by simp [hx])
  have hlen : ds.length = fn.params.toList.length := by
    clear hlaw g1 g2 g3 dd hW' hfz hnd hlt hV hty hty' hval hspec
    generalize fn.params.toList = ts at hA0 ⊢
    generalize args.toList = vs at hA0
    induction ts generalizing vs ds p with
    | nil => obtain ⟨rfl, rfl, rfl⟩ := trodAll_nil hA0; rfl
    | cons t ts ih =>
      obtain ⟨v, vs1, d, ds1, a, b, rfl, rfl, rfl, h1, h2⟩ := trodAll_cons hA0
      simp [ih _ _ h2]
  obtain ⟨dd', n1, n2⟩ := hlaw dd g1 g3
  have g2' : All2 (VR noPl W (old W)) dd' args.toList := by
    refine ⟨by rw [← n1.len]; exact g2.len, fun i x y hx hy => ?_⟩
    have hi : i < dd.length := by rw [n1.len]; exact lt_of_get hx
    have hd := List.getElem?_eq_getElem hi
    exact (n1.at_ i _ x hd hx).vr (g2.at_ i _ y hd hy)
  refine (hA dd' [] _ n2 noPl W (old W) args ⟨fun r row L h => by simp [live] at h, fun r _ row _ _ _ h => by simp [live] at h⟩ (fun _ _ => rfl) (fun b h => h) g2' hG).mono fun e W' hb => ?_
  obtain ⟨v, d, rows', ρ', T', rfl, rfl, -, -, -, hst, hv⟩ := hb.ex
  have hv' := hv.ofRaw
  subst hv'
  have hbl := hst.below
  simp only [List.append_nil] at hW' 
  refine ⟨_, rfl, post_below (pa := p) (pv := []) hW' (fun _ _ _ => ?_) (fun sp hsp => ?_) (fun sp _ => ?_) (by simp) hbl (ok_one hres rfl (okWide_bool_mk htb _))⟩
  · rw [List.append_nil, hspec ds hlen, hres]
    exact trodAll_cons_mk (shut_bool htb _) trodAll_mk0
  · rw [List.append_nil, hspec ds hlen]
    exact args_back hl hbl hA0 (fun t ht => (hty' t ht).2) hlt hsp
  · rw [List.append_nil, hspec ds hlen, hvars]
    exact rfl
end
end Go.Am
