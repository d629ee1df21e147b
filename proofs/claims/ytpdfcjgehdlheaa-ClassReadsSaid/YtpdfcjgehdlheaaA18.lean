/- What an operation looks at, and that it looks at nothing else. -/
import Derived.Test.YtpdfcjgehdlheaaA17
set_option linter.all false
namespace Go.Ab

/-- what is read without leave to append -/
def AOpk.gets : AOpk → List Opd
  | .mov x | .box x | .nilchk x | .eqnil _ _ x | .un _ x | .toInt _ x | .ident x | .strBytes x | .bytesStr x | .mkifc _ x
  | .fldA _ x | .fld _ _ x | .extr x _ | .lenS x | .len x | .panic x | .load _ x | .takeload x | .assertT _ _ x => [x]
  | .take _ | .lenArr _ | .recover | .asg _ | .same _ | .alloc _ | .recheck _ _ _ => []
  | .pick c a b => [c, a, b]
  | .build _ parts | .mkls _ _ parts => parts.map (·.2.2)
  | .store _ a _ => [a]
  | .storeW _ a _ ws => a :: ws
  | .loadB _ a b => [a, b]
  | .bin _ x y | .beq _ x y | .eqc _ _ x y | .idxA _ _ x y | .idxS x y | .idxV _ _ _ x y | .copy x y | .min x y | .max x y => [x, y]
  | .append _ _ y => [y]
  | .mkfn _ first cap => first ++ cap
  | .sliceS x lo hi | .slice _ x lo hi | .slArr _ x lo hi => x :: (lo.toList ++ hi.toList)
  | .call f args | .callZ f args | .callQ f args | .defer f args => f :: args

/-- what may be moved away -/
def AOpk.raw : AOpk → Option Opd
  | .take t => some (.t t)
  | .asg x | .same x | .append _ x _ | .store _ _ x | .storeW _ _ x _ => some x
  | _ => none

/-- 0: of memory nothing; 1: reads at a pointer; 2: reads memory; 3: makes a reference; 4: anything -/
def AOpk.cls : AOpk → Nat
  | .load _ _ | .loadB _ _ _ => 1
  | .callQ _ _ => 2
  | .alloc _ | .box _ => 3
  | .takeload _ => 5
  | .storeW _ _ _ _ => 6
  | .store _ _ _ | .call _ _ | .defer _ _ | .recover | .copy _ _ | .recheck _ _ _ | .panic _ => 4
  | _ => 0

def unOwnS (sl : Slots) : Option Opd → Slots
  | some (.t n) => match sl.get n with
    | some (.own es) => sl.put n (.d (.lst es))
    | _ => sl
  | _ => sl

def Did.mapSt (f : St → St) : Did → Did
  | .val v s => .val v (f s)
  | .none_ s => .none_ (f s)
  | .pan v s => .pan v (f s)

theorem unOwn_sl (s : St) (x : Opd) : unOwn s x = { s with sl := unOwnS s.sl (some x) } := by
  unfold unOwn unOwnS
  cases x with
  | t n =>
    simp only
    split
    · rename_i es h; simp only [h]
    · rename_i h; split
      · rename_i es h'; exact absurd h' (h es)
      · rfl
  | c v => rfl
  | f id => rfl

theorem getOs_congr {sl sl2 : Slots} : ∀ {l : List Opd}, (∀ x, x ∈ l → getO sl2 x = getO sl x) → getOs sl2 l = getOs sl l
  | [], _ => rfl
  | x :: r, h => by
    simp only [getOs]
    rw [h x (by simp), getOs_congr fun y hy => h y (by simp [hy])]

theorem fillA_congr {sl sl2 : Slots} : ∀ {l : List (Nat × Nat × Opd)} {cs : List AV}, (∀ x, x ∈ l.map (·.2.2) → getO sl2 x = getO sl x) → fillA sl2 cs l = fillA sl cs l
  | [], _, _ => rfl
  | (off, size, x) :: r, cs, h => by
    simp only [fillA]
    rw [h x (by simp)]
    cases getO sl x with
    | none => rfl
    | some v =>
      simp only
      rw [fillA_congr fun y hy => h y (by simp only [List.map_cons, List.mem_cons]; exact .inr hy)]

theorem apartB_congr {sl sl2 : Slots} {r : Nat} : ∀ {l : List Opd}, (∀ x, x ∈ l → getO sl2 x = getO sl x) → apartB sl2 r l = apartB sl r l
  | [], _ => rfl
  | x :: l, h => by
    simp only [apartB]
    rw [h x (by simp), apartB_congr fun y hy => h y (by simp [hy])]

theorem asIdx_congr {sl sl2 : Slots} {o : Option Opd} {d : Nat} (h : ∀ x, x ∈ o.toList → getO sl2 x = getO sl x) : asIdx sl2 o d = asIdx sl o d := by
  cases o with
  | none => rfl
  | some x => simp only [asIdx]; rw [h x (by simp)]

set_option maxHeartbeats 2000000 in
theorem step_slots {C : CallFn} {s : St} {o : AOpk} {sl2 : Slots} (hg : ∀ x, x ∈ o.gets → getO sl2 x = getO s.sl x) (hr : ∀ x, o.raw = some x → rawO sl2 x = rawO s.sl x) :
    stepOp C { s with sl := sl2 } o = (stepOp C s o).map (Did.mapSt fun st => { st with sl := unOwnS sl2 o.raw }) := by
  have vlm : ∀ v : Option AV, vl { s with sl := sl2 } v = (vl s v).map (Did.mapSt fun st => { st with sl := sl2 }) := fun v => by cases v <;> rfl
  cases o
  case pick c a b =>
    have h1 := hg c (by simp [AOpk.gets]); have h2 := hg a (by simp [AOpk.gets]); have h3 := hg b (by simp [AOpk.gets])
    simp only [stepOp, AOpk.raw, unOwnS, h1, h2, h3]
    split
    · exact vlm _
    · rfl
  case take t =>
    have h1 := hr _ rfl
    simp only [rawO] at h1
    simp only [stepOp, AOpk.raw, unOwn_sl, h1]
    cases s.sl.get t <;> rfl
  case build zero parts =>
    have h1 := fillA_congr (cs := zero) (sl := s.sl) (sl2 := sl2) (l := parts) hg
    simp only [stepOp, AOpk.raw, unOwnS, h1]
    exact vlm _
  case mkls sz zero parts =>
    have h1 := fillA_congr (cs := zero) (sl := s.sl) (sl2 := sl2) (l := parts) hg
    simp only [stepOp, AOpk.raw, unOwnS, h1]
    repeat' split
    all_goals first | exact vlm _ | rfl
  case mkfn f first cap =>
    have h1 := getOs_congr (sl := s.sl) (sl2 := sl2) (l := first) fun x hx => hg x (by simp [AOpk.gets, hx])
    have h2 := getOs_congr (sl := s.sl) (sl2 := sl2) (l := cap) fun x hx => hg x (by simp [AOpk.gets, hx])
    simp only [stepOp, AOpk.raw, unOwnS, h1, h2]
    repeat' split
    all_goals first | exact vlm _ | rfl
  case sliceS x lo hi =>
    have h1 := hg x (by simp [AOpk.gets])
    have h2 := fun d => asIdx_congr (sl := s.sl) (sl2 := sl2) (o := lo) (d := d) fun x hx => hg x (by simp only [AOpk.gets, List.mem_cons, List.mem_append]; exact .inr (.inl hx))
    have h3 := fun d => asIdx_congr (sl := s.sl) (sl2 := sl2) (o := hi) (d := d) fun x hx => hg x (by simp only [AOpk.gets, List.mem_cons, List.mem_append]; exact .inr (.inr hx))
    simp only [stepOp, AOpk.raw, unOwnS, h1, h2, h3]
    repeat' split
    all_goals first | exact vlm _ | rfl
  case slice sz x lo hi =>
    have h1 := hg x (by simp [AOpk.gets])
    have h2 := fun d => asIdx_congr (sl := s.sl) (sl2 := sl2) (o := lo) (d := d) fun x hx => hg x (by simp only [AOpk.gets, List.mem_cons, List.mem_append]; exact .inr (.inl hx))
    have h3 := fun d => asIdx_congr (sl := s.sl) (sl2 := sl2) (o := hi) (d := d) fun x hx => hg x (by simp only [AOpk.gets, List.mem_cons, List.mem_append]; exact .inr (.inr hx))
    simp only [stepOp, AOpk.raw, unOwnS, h1, h2, h3]
    repeat' split
    all_goals first | exact vlm _ | rfl
  case slArr n x lo hi =>
    have h1 := hg x (by simp [AOpk.gets])
    have h2 := fun d => asIdx_congr (sl := s.sl) (sl2 := sl2) (o := lo) (d := d) fun x hx => hg x (by simp only [AOpk.gets, List.mem_cons, List.mem_append]; exact .inr (.inl hx))
    have h3 := fun d => asIdx_congr (sl := s.sl) (sl2 := sl2) (o := hi) (d := d) fun x hx => hg x (by simp only [AOpk.gets, List.mem_cons, List.mem_append]; exact .inr (.inr hx))
    simp only [stepOp, AOpk.raw, unOwnS, h1, h2, h3]
    repeat' split
    all_goals first | exact vlm _ | rfl
  case call f xs =>
    have h1 := hg f (by simp [AOpk.gets])
    have h2 := getOs_congr (sl := s.sl) (sl2 := sl2) (l := xs) fun x hx => hg x (by simp [AOpk.gets, hx])
    simp only [stepOp, AOpk.raw, unOwnS, h1, h2]
    repeat' split
    all_goals rfl
  case callZ f xs =>
    have h1 := hg f (by simp [AOpk.gets])
    have h2 := getOs_congr (sl := s.sl) (sl2 := sl2) (l := xs) fun x hx => hg x (by simp [AOpk.gets, hx])
    simp only [stepOp, AOpk.raw, unOwnS, h1, h2]
    repeat' split
    all_goals rfl
  case callQ f xs =>
    have h1 := hg f (by simp [AOpk.gets])
    have h2 := getOs_congr (sl := s.sl) (sl2 := sl2) (l := xs) fun x hx => hg x (by simp [AOpk.gets, hx])
    simp only [stepOp, AOpk.raw, unOwnS, h1, h2]
    repeat' split
    all_goals rfl
  case defer f xs =>
    have h1 := hg f (by simp [AOpk.gets])
    have h2 := getOs_congr (sl := s.sl) (sl2 := sl2) (l := xs) fun x hx => hg x (by simp [AOpk.gets, hx])
    simp only [stepOp, AOpk.raw, unOwnS, h1, h2]
    repeat' split
    all_goals rfl
  case store sz x v =>
    have h1 := hg x (by simp [AOpk.gets]); have h2 := hr v rfl
    simp only [stepOp, AOpk.raw, unOwn_sl, h1, h2]
    repeat' split
    all_goals rfl
  case storeW sz x v ws =>
    have h1 := hg x (by simp [AOpk.gets]); have h2 := hr v rfl
    have h3 := fun r => apartB_congr (sl := s.sl) (sl2 := sl2) (r := r) (l := ws) fun x hx => hg x (by simp [AOpk.gets, hx])
    simp only [stepOp, AOpk.raw, unOwn_sl, h1, h2, h3]
    repeat' split
    all_goals rfl
  case append sz x y =>
    have h1 := hg y (by simp [AOpk.gets]); have h2 := hr x rfl
    simp only [stepOp, AOpk.raw, unOwn_sl, h1, h2]
    repeat' split
    all_goals rfl
  case asg x =>
    have h2 := hr x rfl
    simp only [stepOp, AOpk.raw, unOwn_sl, h2]
    repeat' split
    all_goals rfl
  case same x =>
    have h2 := hr x rfl
    simp only [stepOp, AOpk.raw, unOwn_sl, h2]
    repeat' split
    all_goals rfl
  all_goals simp only [AOpk.gets, List.mem_cons, List.not_mem_nil, or_false, forall_eq_or_imp, forall_eq] at hg
  all_goals simp only [stepOp, AOpk.raw, unOwnS, hg]
  all_goals first
    | exact vlm _
    | rfl
    | (repeat' split
       all_goals first | exact vlm _ | rfl)
end Go.Ab
