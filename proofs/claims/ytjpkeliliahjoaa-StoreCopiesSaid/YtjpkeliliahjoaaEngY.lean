/-
  The api's data, typed: records, how each stands as a datum, and that every datum of its type is one.
-/
import Derived.Test.YtjpkeliliahjoaaEngX
set_option linter.unusedSimpArgs false
namespace Go.Eng
open Go Go.RowKit

def B1 (d : D) (j : Nat) : Bool := (d.toL.getD j .top).toB
def in64 (n : Int) : Prop := inK .i64 n
theorem in64_iff {n : Int} : in64 n ↔ -9223372036854775808 ≤ n ∧ n ≤ 9223372036854775807 := inK64
/-- A list's data. -/
def encL {α : Type} (enc : α → D) (l : List α) : D := .list (l.map enc)
theorem encL_toL {α : Type} (enc : α → D) (l : List α) : (encL enc l).toL = l.map enc := rfl
theorem list_map_encL {α : Type} (enc : α → D) (l : List α) : D.list (l.map enc) = encL enc l := rfl
theorem all_enc {α : Type} {t : Ty} {enc : α → D} {ok : α → Prop} (h : ∀ d, Has t d → ∃ a, d = enc a ∧ ok a) : ∀ l : List D, (∀ x ∈ l, Has t x) → ∃ k : List α, l = k.map enc ∧ ∀ a ∈ k, ok a
  | [], _ => ⟨[], rfl, by simp⟩
  | d :: l, hl => by
    obtain ⟨a, rfl, ha⟩ := h d (hl d (by simp))
    obtain ⟨k, rfl, hk⟩ := all_enc h l (fun x hx => hl x (by simp [hx]))
    exact ⟨a :: k, rfl, by simp only [List.mem_cons, forall_eq_or_imp]; exact ⟨ha, hk⟩⟩
theorem list_enc {α : Type} {t : Ty} {enc : α → D} {ok : α → Prop} (h : ∀ d, Has t d → ∃ a, d = enc a ∧ ok a) {d : D} (hd : Has (.list t) d) : ∃ k : List α, d = encL enc k ∧ lenOk t k.length ∧ ∀ a ∈ k, ok a := by
  obtain ⟨l, rfl, hl, hx⟩ := has_list.1 hd
  obtain ⟨k, rfl, hk⟩ := all_enc h l hx
  exact ⟨k, rfl, by simpa using hl, hk⟩
theorem int_enc {d : D} (h : Has (.int .i64) d) : ∃ n : Int, d = .int .i64 n ∧ in64 n := has_int.1 h
def ints (l : List Int) : D := encL (D.int .i64) l
theorem ints_enc {d : D} (h : Has (.list (.int .i64)) d) : ∃ k : List Int, d = ints k ∧ lenOk (.int .i64) k.length ∧ ∀ a ∈ k, in64 a := list_enc (fun _ => int_enc) h
theorem ints_dec (l : List Int) : (l.map (D.int .i64)).map D.toI = l := by simp [List.map_map, Function.comp_def, D.toI]
def decL {α : Type} (dec : D → α) (d : D) : List α := d.toL.map dec
theorem decL_encL {α : Type} {dec : D → α} {enc : α → D} (h : ∀ a, dec (enc a) = a) (l : List α) : decL dec (encL enc l) = l := by
  simp only [decL, encL, toL_list, List.map_map]
  exact (List.map_congr_left fun a _ => h a).trans (List.map_id l)
theorem decI (l : List Int) : decL D.toI (ints l) = l := decL_encL (fun _ => rfl) l

def resT : Ty := .agg (.cons (.int .i64) (.cons (.int .i64) (.nil)))
def grpT : Ty := .agg (.cons (.int .i64) (.cons (.int .i64) (.cons (.int .i64) (.nil))))
def jobT : Ty := .agg (.cons (.int .i64) (.cons (.int .i64) (.cons (.int .i64) (.cons (.int .i64) (.cons (.list grpT) (.cons (.int .i64) (.cons (.bool) (.nil))))))))
def nodeT : Ty := .agg (.cons (.int .i64) (.cons (.int .i64) (.cons (.int .i64) (.cons (.bool) (.cons (.bool) (.cons (.int .i64) (.cons (.int .i64) (.cons (.int .i64) (.nil)))))))))
def allocT : Ty := .agg (.cons (.int .i64) (.cons (.int .i64) (.cons (.int .i64) (.cons (.int .i64) (.cons (.int .i64) (.cons (.int .i64) (.cons (.int .i64) (.cons (.int .i64) (.cons (.int .i64) (.cons (.bool) (.cons (.int .i64) (.nil))))))))))))
def evalT : Ty := .agg (.cons (.int .i64) (.cons (.int .i64) (.cons (.int .i64) (.cons (.int .i64) (.nil)))))
def seenT : Ty := .agg (.cons (.int .i64) (.cons (.int .i64) (.cons (.int .i64) (.cons (.int .i64) (.cons (.list allocT) (.nil))))))
def storeT : Ty := .agg (.cons (.int .i64) (.cons (.int .i64) (.cons (.list jobT) (.cons (.list jobT) (.cons (.list nodeT) (.cons (.list allocT) (.cons (.list evalT) (.cons (.list evalT) (.cons (.list seenT) (.nil))))))))))

structure ARes where
  CPU : Int
  Mem : Int
  deriving DecidableEq, Inhabited
def ARes.enc (a : ARes) : D := .agg [.int .i64 a.CPU, .int .i64 a.Mem]
def ARes.dec (d : D) : ARes := ⟨I d 0, I d 1⟩
structure ARes.Ok (a : ARes) : Prop where
  CPU : in64 a.CPU
  Mem : in64 a.Mem
theorem ARes.dec_enc (a : ARes) : ARes.dec a.enc = a := rfl
theorem ARes.cases {d : D} (h : Has resT d) : ∃ a : ARes, d = a.enc ∧ a.Ok := by
  obtain ⟨_, rfl, _, _, rfl, ⟨x0, rfl, h0⟩, _, _, rfl, ⟨x1, rfl, h1⟩, rfl⟩ := h
  exact ⟨⟨x0, x1⟩, rfl, ⟨h0, h1⟩⟩
theorem ARes.cases_l {d : D} (h : Has (.list resT) d) : ∃ l : List ARes, d = encL ARes.enc l ∧ lenOk resT l.length ∧ ∀ a ∈ l, a.Ok := list_enc (fun _ => ARes.cases) h
theorem ARes.decl (l : List ARes) : decL ARes.dec (encL ARes.enc l) = l := decL_encL ARes.dec_enc l
theorem ARes.c0 (a : ARes) : a.enc.toL[0]? = some (.int .i64 a.CPU) := rfl
theorem ARes.c1 (a : ARes) : a.enc.toL[1]? = some (.int .i64 a.Mem) := rfl
theorem ARes.toL (a : ARes) : a.enc.toL = [.int .i64 a.CPU, .int .i64 a.Mem] := rfl
theorem ARes.fold (a : ARes) : D.agg [.int .i64 a.CPU, .int .i64 a.Mem] = a.enc := rfl

structure AGrp where
  Count : Int
  CPU : Int
  Mem : Int
  deriving DecidableEq, Inhabited
def AGrp.enc (a : AGrp) : D := .agg [.int .i64 a.Count, .int .i64 a.CPU, .int .i64 a.Mem]
def AGrp.dec (d : D) : AGrp := ⟨I d 0, I d 1, I d 2⟩
structure AGrp.Ok (a : AGrp) : Prop where
  Count : in64 a.Count
  CPU : in64 a.CPU
  Mem : in64 a.Mem
theorem AGrp.dec_enc (a : AGrp) : AGrp.dec a.enc = a := rfl
theorem AGrp.cases {d : D} (h : Has grpT d) : ∃ a : AGrp, d = a.enc ∧ a.Ok := by
  obtain ⟨_, rfl, _, _, rfl, ⟨x0, rfl, h0⟩, _, _, rfl, ⟨x1, rfl, h1⟩, _, _, rfl, ⟨x2, rfl, h2⟩, rfl⟩ := h
  exact ⟨⟨x0, x1, x2⟩, rfl, ⟨h0, h1, h2⟩⟩
theorem AGrp.cases_l {d : D} (h : Has (.list grpT) d) : ∃ l : List AGrp, d = encL AGrp.enc l ∧ lenOk grpT l.length ∧ ∀ a ∈ l, a.Ok := list_enc (fun _ => AGrp.cases) h
theorem AGrp.decl (l : List AGrp) : decL AGrp.dec (encL AGrp.enc l) = l := decL_encL AGrp.dec_enc l
theorem AGrp.c0 (a : AGrp) : a.enc.toL[0]? = some (.int .i64 a.Count) := rfl
theorem AGrp.c1 (a : AGrp) : a.enc.toL[1]? = some (.int .i64 a.CPU) := rfl
theorem AGrp.c2 (a : AGrp) : a.enc.toL[2]? = some (.int .i64 a.Mem) := rfl
theorem AGrp.toL (a : AGrp) : a.enc.toL = [.int .i64 a.Count, .int .i64 a.CPU, .int .i64 a.Mem] := rfl
theorem AGrp.fold (a : AGrp) : D.agg [.int .i64 a.Count, .int .i64 a.CPU, .int .i64 a.Mem] = a.enc := rfl

structure AJob where
  ID : Int
  Kind : Int
  Priority : Int
  Parallel : Int
  Groups : List AGrp
  Version : Int
  Stopped : Bool
  deriving DecidableEq, Inhabited
def AJob.enc (a : AJob) : D := .agg [.int .i64 a.ID, .int .i64 a.Kind, .int .i64 a.Priority, .int .i64 a.Parallel, encL AGrp.enc a.Groups, .int .i64 a.Version, .bool a.Stopped]
def AJob.dec (d : D) : AJob := ⟨I d 0, I d 1, I d 2, I d 3, decL AGrp.dec (d.toL.getD 4 .top), I d 5, B1 d 6⟩
structure AJob.Ok (a : AJob) : Prop where
  ID : in64 a.ID
  Kind : in64 a.Kind
  Priority : in64 a.Priority
  Parallel : in64 a.Parallel
  Groups : lenOk grpT a.Groups.length ∧ ∀ x ∈ a.Groups, x.Ok
  Version : in64 a.Version
  Stopped : True
theorem AJob.dec_enc (a : AJob) : AJob.dec a.enc = a := by
  simp only [AJob.dec, AJob.enc, I, B1, toL_agg, List.getD_cons_zero, List.getD_cons_succ, toI_int, toB_bool, decL_encL AGrp.dec_enc]
theorem AJob.cases {d : D} (h : Has jobT d) : ∃ a : AJob, d = a.enc ∧ a.Ok := by
  obtain ⟨_, rfl, _, _, rfl, ⟨x0, rfl, h0⟩, _, _, rfl, ⟨x1, rfl, h1⟩, _, _, rfl, ⟨x2, rfl, h2⟩, _, _, rfl, ⟨x3, rfl, h3⟩, d4, _, rfl, h4, _, _, rfl, ⟨x5, rfl, h5⟩, _, _, rfl, ⟨x6, rfl⟩, rfl⟩ := h
  obtain ⟨x4, rfl, g4⟩ := AGrp.cases_l h4
  exact ⟨⟨x0, x1, x2, x3, x4, x5, x6⟩, rfl, ⟨h0, h1, h2, h3, g4, h5, trivial⟩⟩
theorem AJob.cases_l {d : D} (h : Has (.list jobT) d) : ∃ l : List AJob, d = encL AJob.enc l ∧ lenOk jobT l.length ∧ ∀ a ∈ l, a.Ok := list_enc (fun _ => AJob.cases) h
theorem AJob.decl (l : List AJob) : decL AJob.dec (encL AJob.enc l) = l := decL_encL AJob.dec_enc l
theorem AJob.c0 (a : AJob) : a.enc.toL[0]? = some (.int .i64 a.ID) := rfl
theorem AJob.c1 (a : AJob) : a.enc.toL[1]? = some (.int .i64 a.Kind) := rfl
theorem AJob.c2 (a : AJob) : a.enc.toL[2]? = some (.int .i64 a.Priority) := rfl
theorem AJob.c3 (a : AJob) : a.enc.toL[3]? = some (.int .i64 a.Parallel) := rfl
theorem AJob.c4 (a : AJob) : a.enc.toL[4]? = some (encL AGrp.enc a.Groups) := rfl
theorem AJob.c5 (a : AJob) : a.enc.toL[5]? = some (.int .i64 a.Version) := rfl
theorem AJob.c6 (a : AJob) : a.enc.toL[6]? = some (.bool a.Stopped) := rfl
theorem AJob.toL (a : AJob) : a.enc.toL = [.int .i64 a.ID, .int .i64 a.Kind, .int .i64 a.Priority, .int .i64 a.Parallel, encL AGrp.enc a.Groups, .int .i64 a.Version, .bool a.Stopped] := rfl
theorem AJob.fold (a : AJob) : D.agg [.int .i64 a.ID, .int .i64 a.Kind, .int .i64 a.Priority, .int .i64 a.Parallel, encL AGrp.enc a.Groups, .int .i64 a.Version, .bool a.Stopped] = a.enc := rfl

structure ANode where
  ID : Int
  CPU : Int
  Mem : Int
  Up : Bool
  Drain : Bool
  Boot : Int
  Epoch : Int
  Seq : Int
  deriving DecidableEq, Inhabited
def ANode.enc (a : ANode) : D := .agg [.int .i64 a.ID, .int .i64 a.CPU, .int .i64 a.Mem, .bool a.Up, .bool a.Drain, .int .i64 a.Boot, .int .i64 a.Epoch, .int .i64 a.Seq]
def ANode.dec (d : D) : ANode := ⟨I d 0, I d 1, I d 2, B1 d 3, B1 d 4, I d 5, I d 6, I d 7⟩
structure ANode.Ok (a : ANode) : Prop where
  ID : in64 a.ID
  CPU : in64 a.CPU
  Mem : in64 a.Mem
  Up : True
  Drain : True
  Boot : in64 a.Boot
  Epoch : in64 a.Epoch
  Seq : in64 a.Seq
theorem ANode.dec_enc (a : ANode) : ANode.dec a.enc = a := rfl
theorem ANode.cases {d : D} (h : Has nodeT d) : ∃ a : ANode, d = a.enc ∧ a.Ok := by
  obtain ⟨_, rfl, _, _, rfl, ⟨x0, rfl, h0⟩, _, _, rfl, ⟨x1, rfl, h1⟩, _, _, rfl, ⟨x2, rfl, h2⟩, _, _, rfl, ⟨x3, rfl⟩, _, _, rfl, ⟨x4, rfl⟩, _, _, rfl, ⟨x5, rfl, h5⟩, _, _, rfl, ⟨x6, rfl, h6⟩, _, _, rfl, ⟨x7, rfl, h7⟩, rfl⟩ := h
  exact ⟨⟨x0, x1, x2, x3, x4, x5, x6, x7⟩, rfl, ⟨h0, h1, h2, trivial, trivial, h5, h6, h7⟩⟩
theorem ANode.cases_l {d : D} (h : Has (.list nodeT) d) : ∃ l : List ANode, d = encL ANode.enc l ∧ lenOk nodeT l.length ∧ ∀ a ∈ l, a.Ok := list_enc (fun _ => ANode.cases) h
theorem ANode.decl (l : List ANode) : decL ANode.dec (encL ANode.enc l) = l := decL_encL ANode.dec_enc l
theorem ANode.c0 (a : ANode) : a.enc.toL[0]? = some (.int .i64 a.ID) := rfl
theorem ANode.c1 (a : ANode) : a.enc.toL[1]? = some (.int .i64 a.CPU) := rfl
theorem ANode.c2 (a : ANode) : a.enc.toL[2]? = some (.int .i64 a.Mem) := rfl
theorem ANode.c3 (a : ANode) : a.enc.toL[3]? = some (.bool a.Up) := rfl
theorem ANode.c4 (a : ANode) : a.enc.toL[4]? = some (.bool a.Drain) := rfl
theorem ANode.c5 (a : ANode) : a.enc.toL[5]? = some (.int .i64 a.Boot) := rfl
theorem ANode.c6 (a : ANode) : a.enc.toL[6]? = some (.int .i64 a.Epoch) := rfl
theorem ANode.c7 (a : ANode) : a.enc.toL[7]? = some (.int .i64 a.Seq) := rfl
theorem ANode.toL (a : ANode) : a.enc.toL = [.int .i64 a.ID, .int .i64 a.CPU, .int .i64 a.Mem, .bool a.Up, .bool a.Drain, .int .i64 a.Boot, .int .i64 a.Epoch, .int .i64 a.Seq] := rfl
theorem ANode.fold (a : ANode) : D.agg [.int .i64 a.ID, .int .i64 a.CPU, .int .i64 a.Mem, .bool a.Up, .bool a.Drain, .int .i64 a.Boot, .int .i64 a.Epoch, .int .i64 a.Seq] = a.enc := rfl

structure AAlc where
  ID : Int
  Job : Int
  Version : Int
  Group : Int
  Index : Int
  Node : Int
  Epoch : Int
  CPU : Int
  Mem : Int
  Stop : Bool
  State : Int
  deriving DecidableEq, Inhabited
def AAlc.enc (a : AAlc) : D := .agg [.int .i64 a.ID, .int .i64 a.Job, .int .i64 a.Version, .int .i64 a.Group, .int .i64 a.Index, .int .i64 a.Node, .int .i64 a.Epoch, .int .i64 a.CPU, .int .i64 a.Mem, .bool a.Stop, .int .i64 a.State]
def AAlc.dec (d : D) : AAlc := ⟨I d 0, I d 1, I d 2, I d 3, I d 4, I d 5, I d 6, I d 7, I d 8, B1 d 9, I d 10⟩
structure AAlc.Ok (a : AAlc) : Prop where
  ID : in64 a.ID
  Job : in64 a.Job
  Version : in64 a.Version
  Group : in64 a.Group
  Index : in64 a.Index
  Node : in64 a.Node
  Epoch : in64 a.Epoch
  CPU : in64 a.CPU
  Mem : in64 a.Mem
  Stop : True
  State : in64 a.State
theorem AAlc.dec_enc (a : AAlc) : AAlc.dec a.enc = a := rfl
theorem AAlc.cases {d : D} (h : Has allocT d) : ∃ a : AAlc, d = a.enc ∧ a.Ok := by
  obtain ⟨_, rfl, _, _, rfl, ⟨x0, rfl, h0⟩, _, _, rfl, ⟨x1, rfl, h1⟩, _, _, rfl, ⟨x2, rfl, h2⟩, _, _, rfl, ⟨x3, rfl, h3⟩, _, _, rfl, ⟨x4, rfl, h4⟩, _, _, rfl, ⟨x5, rfl, h5⟩, _, _, rfl, ⟨x6, rfl, h6⟩, _, _, rfl, ⟨x7, rfl, h7⟩, _, _, rfl, ⟨x8, rfl, h8⟩, _, _, rfl, ⟨x9, rfl⟩, _, _, rfl, ⟨x10, rfl, h10⟩, rfl⟩ := h
  exact ⟨⟨x0, x1, x2, x3, x4, x5, x6, x7, x8, x9, x10⟩, rfl, ⟨h0, h1, h2, h3, h4, h5, h6, h7, h8, trivial, h10⟩⟩
theorem AAlc.cases_l {d : D} (h : Has (.list allocT) d) : ∃ l : List AAlc, d = encL AAlc.enc l ∧ lenOk allocT l.length ∧ ∀ a ∈ l, a.Ok := list_enc (fun _ => AAlc.cases) h
theorem AAlc.decl (l : List AAlc) : decL AAlc.dec (encL AAlc.enc l) = l := decL_encL AAlc.dec_enc l
theorem AAlc.c0 (a : AAlc) : a.enc.toL[0]? = some (.int .i64 a.ID) := rfl
theorem AAlc.c1 (a : AAlc) : a.enc.toL[1]? = some (.int .i64 a.Job) := rfl
theorem AAlc.c2 (a : AAlc) : a.enc.toL[2]? = some (.int .i64 a.Version) := rfl
theorem AAlc.c3 (a : AAlc) : a.enc.toL[3]? = some (.int .i64 a.Group) := rfl
theorem AAlc.c4 (a : AAlc) : a.enc.toL[4]? = some (.int .i64 a.Index) := rfl
theorem AAlc.c5 (a : AAlc) : a.enc.toL[5]? = some (.int .i64 a.Node) := rfl
theorem AAlc.c6 (a : AAlc) : a.enc.toL[6]? = some (.int .i64 a.Epoch) := rfl
theorem AAlc.c7 (a : AAlc) : a.enc.toL[7]? = some (.int .i64 a.CPU) := rfl
theorem AAlc.c8 (a : AAlc) : a.enc.toL[8]? = some (.int .i64 a.Mem) := rfl
theorem AAlc.c9 (a : AAlc) : a.enc.toL[9]? = some (.bool a.Stop) := rfl
theorem AAlc.c10 (a : AAlc) : a.enc.toL[10]? = some (.int .i64 a.State) := rfl
theorem AAlc.toL (a : AAlc) : a.enc.toL = [.int .i64 a.ID, .int .i64 a.Job, .int .i64 a.Version, .int .i64 a.Group, .int .i64 a.Index, .int .i64 a.Node, .int .i64 a.Epoch, .int .i64 a.CPU, .int .i64 a.Mem, .bool a.Stop, .int .i64 a.State] := rfl
theorem AAlc.fold (a : AAlc) : D.agg [.int .i64 a.ID, .int .i64 a.Job, .int .i64 a.Version, .int .i64 a.Group, .int .i64 a.Index, .int .i64 a.Node, .int .i64 a.Epoch, .int .i64 a.CPU, .int .i64 a.Mem, .bool a.Stop, .int .i64 a.State] = a.enc := rfl

structure AEvl where
  Job : Int
  Priority : Int
  State : Int
  Index : Int
  deriving DecidableEq, Inhabited
def AEvl.enc (a : AEvl) : D := .agg [.int .i64 a.Job, .int .i64 a.Priority, .int .i64 a.State, .int .i64 a.Index]
def AEvl.dec (d : D) : AEvl := ⟨I d 0, I d 1, I d 2, I d 3⟩
structure AEvl.Ok (a : AEvl) : Prop where
  Job : in64 a.Job
  Priority : in64 a.Priority
  State : in64 a.State
  Index : in64 a.Index
theorem AEvl.dec_enc (a : AEvl) : AEvl.dec a.enc = a := rfl
theorem AEvl.cases {d : D} (h : Has evalT d) : ∃ a : AEvl, d = a.enc ∧ a.Ok := by
  obtain ⟨_, rfl, _, _, rfl, ⟨x0, rfl, h0⟩, _, _, rfl, ⟨x1, rfl, h1⟩, _, _, rfl, ⟨x2, rfl, h2⟩, _, _, rfl, ⟨x3, rfl, h3⟩, rfl⟩ := h
  exact ⟨⟨x0, x1, x2, x3⟩, rfl, ⟨h0, h1, h2, h3⟩⟩
theorem AEvl.cases_l {d : D} (h : Has (.list evalT) d) : ∃ l : List AEvl, d = encL AEvl.enc l ∧ lenOk evalT l.length ∧ ∀ a ∈ l, a.Ok := list_enc (fun _ => AEvl.cases) h
theorem AEvl.decl (l : List AEvl) : decL AEvl.dec (encL AEvl.enc l) = l := decL_encL AEvl.dec_enc l
theorem AEvl.c0 (a : AEvl) : a.enc.toL[0]? = some (.int .i64 a.Job) := rfl
theorem AEvl.c1 (a : AEvl) : a.enc.toL[1]? = some (.int .i64 a.Priority) := rfl
theorem AEvl.c2 (a : AEvl) : a.enc.toL[2]? = some (.int .i64 a.State) := rfl
theorem AEvl.c3 (a : AEvl) : a.enc.toL[3]? = some (.int .i64 a.Index) := rfl
theorem AEvl.toL (a : AEvl) : a.enc.toL = [.int .i64 a.Job, .int .i64 a.Priority, .int .i64 a.State, .int .i64 a.Index] := rfl
theorem AEvl.fold (a : AEvl) : D.agg [.int .i64 a.Job, .int .i64 a.Priority, .int .i64 a.State, .int .i64 a.Index] = a.enc := rfl

structure ASeen where
  Client : Int
  Req : Int
  Code : Int
  Value : Int
  Allocs : List AAlc
  deriving DecidableEq, Inhabited
def ASeen.enc (a : ASeen) : D := .agg [.int .i64 a.Client, .int .i64 a.Req, .int .i64 a.Code, .int .i64 a.Value, encL AAlc.enc a.Allocs]
def ASeen.dec (d : D) : ASeen := ⟨I d 0, I d 1, I d 2, I d 3, decL AAlc.dec (d.toL.getD 4 .top)⟩
structure ASeen.Ok (a : ASeen) : Prop where
  Client : in64 a.Client
  Req : in64 a.Req
  Code : in64 a.Code
  Value : in64 a.Value
  Allocs : lenOk allocT a.Allocs.length ∧ ∀ x ∈ a.Allocs, x.Ok
theorem ASeen.dec_enc (a : ASeen) : ASeen.dec a.enc = a := by
  simp only [ASeen.dec, ASeen.enc, I, B1, toL_agg, List.getD_cons_zero, List.getD_cons_succ, toI_int, toB_bool, decL_encL AAlc.dec_enc]
theorem ASeen.cases {d : D} (h : Has seenT d) : ∃ a : ASeen, d = a.enc ∧ a.Ok := by
  obtain ⟨_, rfl, _, _, rfl, ⟨x0, rfl, h0⟩, _, _, rfl, ⟨x1, rfl, h1⟩, _, _, rfl, ⟨x2, rfl, h2⟩, _, _, rfl, ⟨x3, rfl, h3⟩, d4, _, rfl, h4, rfl⟩ := h
  obtain ⟨x4, rfl, g4⟩ := AAlc.cases_l h4
  exact ⟨⟨x0, x1, x2, x3, x4⟩, rfl, ⟨h0, h1, h2, h3, g4⟩⟩
theorem ASeen.cases_l {d : D} (h : Has (.list seenT) d) : ∃ l : List ASeen, d = encL ASeen.enc l ∧ lenOk seenT l.length ∧ ∀ a ∈ l, a.Ok := list_enc (fun _ => ASeen.cases) h
theorem ASeen.decl (l : List ASeen) : decL ASeen.dec (encL ASeen.enc l) = l := decL_encL ASeen.dec_enc l
theorem ASeen.c0 (a : ASeen) : a.enc.toL[0]? = some (.int .i64 a.Client) := rfl
theorem ASeen.c1 (a : ASeen) : a.enc.toL[1]? = some (.int .i64 a.Req) := rfl
theorem ASeen.c2 (a : ASeen) : a.enc.toL[2]? = some (.int .i64 a.Code) := rfl
theorem ASeen.c3 (a : ASeen) : a.enc.toL[3]? = some (.int .i64 a.Value) := rfl
theorem ASeen.c4 (a : ASeen) : a.enc.toL[4]? = some (encL AAlc.enc a.Allocs) := rfl
theorem ASeen.toL (a : ASeen) : a.enc.toL = [.int .i64 a.Client, .int .i64 a.Req, .int .i64 a.Code, .int .i64 a.Value, encL AAlc.enc a.Allocs] := rfl
theorem ASeen.fold (a : ASeen) : D.agg [.int .i64 a.Client, .int .i64 a.Req, .int .i64 a.Code, .int .i64 a.Value, encL AAlc.enc a.Allocs] = a.enc := rfl

structure AStore where
  Index : Int
  Next : Int
  Jobs : List AJob
  Stable : List AJob
  Nodes : List ANode
  Allocs : List AAlc
  Evals : List AEvl
  Deploys : List AEvl
  Seen : List ASeen
  deriving DecidableEq, Inhabited
def AStore.enc (a : AStore) : D := .agg [.int .i64 a.Index, .int .i64 a.Next, encL AJob.enc a.Jobs, encL AJob.enc a.Stable, encL ANode.enc a.Nodes, encL AAlc.enc a.Allocs, encL AEvl.enc a.Evals, encL AEvl.enc a.Deploys, encL ASeen.enc a.Seen]
def AStore.dec (d : D) : AStore := ⟨I d 0, I d 1, decL AJob.dec (d.toL.getD 2 .top), decL AJob.dec (d.toL.getD 3 .top), decL ANode.dec (d.toL.getD 4 .top), decL AAlc.dec (d.toL.getD 5 .top), decL AEvl.dec (d.toL.getD 6 .top), decL AEvl.dec (d.toL.getD 7 .top), decL ASeen.dec (d.toL.getD 8 .top)⟩
structure AStore.Ok (a : AStore) : Prop where
  Index : in64 a.Index
  Next : in64 a.Next
  Jobs : lenOk jobT a.Jobs.length ∧ ∀ x ∈ a.Jobs, x.Ok
  Stable : lenOk jobT a.Stable.length ∧ ∀ x ∈ a.Stable, x.Ok
  Nodes : lenOk nodeT a.Nodes.length ∧ ∀ x ∈ a.Nodes, x.Ok
  Allocs : lenOk allocT a.Allocs.length ∧ ∀ x ∈ a.Allocs, x.Ok
  Evals : lenOk evalT a.Evals.length ∧ ∀ x ∈ a.Evals, x.Ok
  Deploys : lenOk evalT a.Deploys.length ∧ ∀ x ∈ a.Deploys, x.Ok
  Seen : lenOk seenT a.Seen.length ∧ ∀ x ∈ a.Seen, x.Ok
theorem AStore.dec_enc (a : AStore) : AStore.dec a.enc = a := by
  simp only [AStore.dec, AStore.enc, I, B1, toL_agg, List.getD_cons_zero, List.getD_cons_succ, toI_int, toB_bool, decL_encL AAlc.dec_enc, decL_encL AEvl.dec_enc, decL_encL AJob.dec_enc, decL_encL ANode.dec_enc, decL_encL ASeen.dec_enc]
theorem AStore.cases {d : D} (h : Has storeT d) : ∃ a : AStore, d = a.enc ∧ a.Ok := by
  obtain ⟨_, rfl, _, _, rfl, ⟨x0, rfl, h0⟩, _, _, rfl, ⟨x1, rfl, h1⟩, d2, _, rfl, h2, d3, _, rfl, h3, d4, _, rfl, h4, d5, _, rfl, h5, d6, _, rfl, h6, d7, _, rfl, h7, d8, _, rfl, h8, rfl⟩ := h
  obtain ⟨x2, rfl, g2⟩ := AJob.cases_l h2
  obtain ⟨x3, rfl, g3⟩ := AJob.cases_l h3
  obtain ⟨x4, rfl, g4⟩ := ANode.cases_l h4
  obtain ⟨x5, rfl, g5⟩ := AAlc.cases_l h5
  obtain ⟨x6, rfl, g6⟩ := AEvl.cases_l h6
  obtain ⟨x7, rfl, g7⟩ := AEvl.cases_l h7
  obtain ⟨x8, rfl, g8⟩ := ASeen.cases_l h8
  exact ⟨⟨x0, x1, x2, x3, x4, x5, x6, x7, x8⟩, rfl, ⟨h0, h1, g2, g3, g4, g5, g6, g7, g8⟩⟩
theorem AStore.cases_l {d : D} (h : Has (.list storeT) d) : ∃ l : List AStore, d = encL AStore.enc l ∧ lenOk storeT l.length ∧ ∀ a ∈ l, a.Ok := list_enc (fun _ => AStore.cases) h
theorem AStore.decl (l : List AStore) : decL AStore.dec (encL AStore.enc l) = l := decL_encL AStore.dec_enc l
theorem AStore.c0 (a : AStore) : a.enc.toL[0]? = some (.int .i64 a.Index) := rfl
theorem AStore.c1 (a : AStore) : a.enc.toL[1]? = some (.int .i64 a.Next) := rfl
theorem AStore.c2 (a : AStore) : a.enc.toL[2]? = some (encL AJob.enc a.Jobs) := rfl
theorem AStore.c3 (a : AStore) : a.enc.toL[3]? = some (encL AJob.enc a.Stable) := rfl
theorem AStore.c4 (a : AStore) : a.enc.toL[4]? = some (encL ANode.enc a.Nodes) := rfl
theorem AStore.c5 (a : AStore) : a.enc.toL[5]? = some (encL AAlc.enc a.Allocs) := rfl
theorem AStore.c6 (a : AStore) : a.enc.toL[6]? = some (encL AEvl.enc a.Evals) := rfl
theorem AStore.c7 (a : AStore) : a.enc.toL[7]? = some (encL AEvl.enc a.Deploys) := rfl
theorem AStore.c8 (a : AStore) : a.enc.toL[8]? = some (encL ASeen.enc a.Seen) := rfl
theorem AStore.toL (a : AStore) : a.enc.toL = [.int .i64 a.Index, .int .i64 a.Next, encL AJob.enc a.Jobs, encL AJob.enc a.Stable, encL ANode.enc a.Nodes, encL AAlc.enc a.Allocs, encL AEvl.enc a.Evals, encL AEvl.enc a.Deploys, encL ASeen.enc a.Seen] := rfl
theorem AStore.fold (a : AStore) : D.agg [.int .i64 a.Index, .int .i64 a.Next, encL AJob.enc a.Jobs, encL AJob.enc a.Stable, encL ANode.enc a.Nodes, encL AAlc.enc a.Allocs, encL AEvl.enc a.Evals, encL AEvl.enc a.Deploys, encL ASeen.enc a.Seen] = a.enc := rfl

theorem drop_some {α : Type} {l : List α} {i : Nat} {x : α} (h : l[i]? = some x) : l.drop i = x :: l.drop (i + 1) := by
  obtain ⟨hi, rfl⟩ := List.getElem?_eq_some_iff.1 h
  exact List.drop_eq_getElem_cons hi
theorem lt_some {α : Type} {l : List α} {i : Nat} {x : α} (h : l[i]? = some x) : i < l.length := (List.getElem?_eq_some_iff.1 h).1
theorem ge_none {α : Type} {l : List α} {i : Nat} (h : l[i]? = none) : l.length ≤ i := List.getElem?_eq_none_iff.1 h
theorem drop_none {α : Type} {l : List α} {i : Nat} (h : l[i]? = none) : l.drop i = [] := List.drop_eq_nil_of_le (ge_none h)
theorem mem_some {α : Type} {l : List α} {i : Nat} {x : α} (h : l[i]? = some x) : x ∈ l := List.mem_of_getElem? h
/-- The place of the first that is such, from a number on; -1: there is none. -/
def findF {α : Type} (p : α → Bool) : List α → Int → Int
  | [], _ => -1
  | x :: r, i => if p x then i else findF p r (i + 1)
theorem findF_cases {α : Type} (p : α → Bool) : ∀ (l : List α) (i : Int), (findF p l i = -1 ∧ ∀ x ∈ l, p x = false) ∨ ∃ (n : Nat) (x : α), findF p l i = i + n ∧ l[n]? = some x ∧ p x = true ∧ ∀ y ∈ l.take n, p y = false
  | [], i => .inl ⟨rfl, by simp⟩
  | x :: r, i => by
    unfold findF
    cases hp : p x with
    | true => exact .inr ⟨0, x, by simp, rfl, hp, by simp⟩
    | false =>
      rcases findF_cases p r (i + 1) with ⟨h1, h2⟩ | ⟨n, y, h1, h2, h3, h4⟩
      · exact .inl ⟨by simpa using h1, by simp only [List.mem_cons, forall_eq_or_imp]; exact ⟨hp, h2⟩⟩
      · exact .inr ⟨n + 1, y, by simp [h1]; omega, by simpa using h2, h3, by simp only [List.take_succ_cons, List.mem_cons, forall_eq_or_imp]; exact ⟨hp, h4⟩⟩
/-- The first cells of a list of data. -/
theorem I0 (n : Int) (k : IntKind) (r : List D) : I (.list (.int k n :: r)) 0 = n := rfl
theorem nat_of {i : Int} (h : 0 ≤ i) : ∃ n : Nat, i = n := Int.eq_ofNat_of_zero_le h
end Go.Eng
