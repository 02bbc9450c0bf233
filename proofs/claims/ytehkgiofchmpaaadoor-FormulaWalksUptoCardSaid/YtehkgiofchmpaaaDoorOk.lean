/- The tables are so. Printed by genok.py. -/
import Derived.Test.YtehkgiofchmpaaaDoorTab
import Derived.Test.YtehkgiofchmpaaaDoorAbsKd
import Derived.KernelRfl
namespace Go.Proofs.YtehkgiofchmpaaaDoor
open Go Go.Abs
set_option linter.unusedVariables false
set_option maxRecDepth 100000
theorem ty1ok : TyFact Tryd.prog 1 ty1 := TyFact.of (by kernel_rfl) (by kernel_rfl) (by kernel_rfl) (by kernel_rfl) (by kernel_rfl) (by kernel_rfl) rfl (fun _ => rfl) Tryd.underlying1 rfl ⟨_, _, _, rfl⟩ (by kernel_rfl) (.inl rfl) (fun k h => by cases h)
theorem ty2ok : TyFact Tryd.prog 2 ty2 := TyFact.of (by kernel_rfl) (by kernel_rfl) (by kernel_rfl) (by kernel_rfl) (by kernel_rfl) (by kernel_rfl) rfl (fun _ => rfl) Tryd.underlying2 rfl ⟨_, rfl⟩ (by kernel_rfl) (.inl rfl) (fun k h => by cases h; exact Tryd.underlying2)
theorem ty3ok : TyFact Tryd.prog 3 ty3 := TyFact.of (by kernel_rfl) (by kernel_rfl) (by kernel_rfl) (by kernel_rfl) (by kernel_rfl) (by kernel_rfl) rfl (fun _ => rfl) Tryd.underlying3 rfl ⟨_, rfl⟩ (by kernel_rfl) (.inl rfl) (fun k h => by cases h; exact Tryd.underlying3)
theorem ty4ok : TyFact Tryd.prog 4 ty4 := TyFact.of (by kernel_rfl) (by kernel_rfl) (by kernel_rfl) (by kernel_rfl) (by kernel_rfl) (by kernel_rfl) rfl (fun _ => rfl) Tryd.underlying4 rfl rfl (by kernel_rfl) (.inl rfl) (fun k h => by cases h)
theorem ty5ok : TyFact Tryd.prog 5 ty5 := TyFact.of (by kernel_rfl) (by kernel_rfl) (by kernel_rfl) (by kernel_rfl) (by kernel_rfl) (by kernel_rfl) rfl (fun _ => rfl) Tryd.underlying5 rfl ⟨_, rfl⟩ (by kernel_rfl) (.inl rfl) (fun k h => by cases h; exact Tryd.underlying5)
theorem ty6ok : TyFact Tryd.prog 6 ty6 := TyFact.of (by kernel_rfl) (by kernel_rfl) (by kernel_rfl) (by kernel_rfl) (by kernel_rfl) (by kernel_rfl) rfl (fun _ => rfl) Tryd.underlying6 rfl ⟨_, rfl⟩ (by kernel_rfl) (.inl rfl) (fun k h => by cases h; exact Tryd.underlying6)
theorem ty9ok : TyFact Tryd.prog 9 ty9 := TyFact.of (by kernel_rfl) (by kernel_rfl) (by kernel_rfl) (by kernel_rfl) (by kernel_rfl) (by kernel_rfl) rfl (fun _ => rfl) Tryd.underlying9 rfl rfl (by kernel_rfl) (.inl rfl) (fun k h => by cases h)
theorem ty12ok : TyFact Tryd.prog 12 ty12 := TyFact.of (by kernel_rfl) (by kernel_rfl) (by kernel_rfl) (by kernel_rfl) (by kernel_rfl) (by kernel_rfl) rfl (fun _ => rfl) Tryd.underlying12 rfl ⟨_, rfl⟩ (by kernel_rfl) (.inl rfl) (fun k h => by cases h; exact Tryd.underlying12)
theorem ty20ok : TyFact Tryd.prog 20 ty20 := TyFact.of (by kernel_rfl) (by kernel_rfl) (by kernel_rfl) (by kernel_rfl) (by kernel_rfl) (by kernel_rfl) rfl (fun _ => rfl) Tryd.underlying20 rfl rfl (by kernel_rfl) (.inl rfl) (fun k h => by cases h)
theorem ty22ok : TyFact Tryd.prog 22 ty22 := TyFact.of (by kernel_rfl) (by kernel_rfl) (by kernel_rfl) (by kernel_rfl) (by kernel_rfl) (by kernel_rfl) rfl (fun _ => rfl) Tryd.underlying22 rfl rfl (by kernel_rfl) (.inl rfl) (fun k h => by cases h)
theorem ty23ok : TyFact Tryd.prog 23 ty23 := TyFact.of (by kernel_rfl) (by kernel_rfl) (by kernel_rfl) (by kernel_rfl) (by kernel_rfl) (by kernel_rfl) rfl (fun _ => rfl) Tryd.underlying23 rfl rfl (by kernel_rfl) (.inl rfl) (fun k h => by cases h)
theorem ty25ok : TyFact Tryd.prog 25 ty25 := TyFact.of (by kernel_rfl) (by kernel_rfl) (by kernel_rfl) (by kernel_rfl) (by kernel_rfl) (by kernel_rfl) rfl (fun h => by cases h) Tryd.underlying25 rfl ⟨_, rfl, by kernel_rfl, by decide⟩ (by kernel_rfl) (.inl rfl) (fun k h => by cases h)
theorem ty28ok : TyFact Tryd.prog 28 ty28 := TyFact.of (by kernel_rfl) (by kernel_rfl) (by kernel_rfl) (by kernel_rfl) (by kernel_rfl) (by kernel_rfl) rfl (fun _ => rfl) Tryd.underlying28 rfl ⟨_, _, _, rfl⟩ (by kernel_rfl) (.inl rfl) (fun k h => by cases h)
theorem ty30ok : TyFact Tryd.prog 30 ty30 := TyFact.of (by kernel_rfl) (by kernel_rfl) (by kernel_rfl) (by kernel_rfl) (by kernel_rfl) (by kernel_rfl) rfl (fun _ => rfl) Tryd.underlying30 rfl ⟨_, rfl⟩ (by kernel_rfl) (.inl rfl) (fun k h => by cases h; exact Tryd.underlying30)
theorem ty40ok : TyFact Tryd.prog 40 ty40 := TyFact.of (by kernel_rfl) (by kernel_rfl) (by kernel_rfl) (by kernel_rfl) (by kernel_rfl) (by kernel_rfl) rfl (fun h => by cases h) Tryd.underlying40 rfl ⟨_, rfl, by kernel_rfl, by decide⟩ (by kernel_rfl) (.inl rfl) (fun k h => by cases h)
theorem ty51ok : TyFact Tryd.prog 51 ty51 := TyFact.of (by kernel_rfl) (by kernel_rfl) (by kernel_rfl) (by kernel_rfl) (by kernel_rfl) (by kernel_rfl) rfl (fun _ => rfl) Tryd.underlying51 rfl ⟨_, _, _, rfl⟩ (by kernel_rfl) (.inl rfl) (fun k h => by cases h)
theorem ty53ok : TyFact Tryd.prog 53 ty53 := TyFact.of (by kernel_rfl) (by kernel_rfl) (by kernel_rfl) (by kernel_rfl) (by kernel_rfl) (by kernel_rfl) rfl (fun _ => rfl) Tryd.underlying53 rfl ⟨_, rfl⟩ (by kernel_rfl) (.inl rfl) (fun k h => by cases h)
theorem ty54ok : TyFact Tryd.prog 54 ty54 := TyFact.of (by kernel_rfl) (by kernel_rfl) (by kernel_rfl) (by kernel_rfl) (by kernel_rfl) (by kernel_rfl) rfl (fun _ => rfl) Tryd.underlying54 rfl rfl (by kernel_rfl) (.inl rfl) (fun k h => by cases h)
theorem ty56ok : TyFact Tryd.prog 56 ty56 := TyFact.of (by kernel_rfl) (by kernel_rfl) (by kernel_rfl) (by kernel_rfl) (by kernel_rfl) (by kernel_rfl) rfl (fun h => by cases h) Tryd.underlying56 rfl ⟨_, rfl, by kernel_rfl, by decide⟩ (by kernel_rfl) (.inr rfl) (fun k h => by cases h)
theorem ty60ok : TyFact Tryd.prog 60 ty60 := TyFact.of (by kernel_rfl) (by kernel_rfl) (by kernel_rfl) (by kernel_rfl) (by kernel_rfl) (by kernel_rfl) rfl (fun h => by cases h) Tryd.underlying60 rfl ⟨_, rfl, by kernel_rfl, by decide⟩ (by kernel_rfl) (.inl rfl) (fun k h => by cases h)
theorem ty62ok : TyFact Tryd.prog 62 ty62 := TyFact.of (by kernel_rfl) (by kernel_rfl) (by kernel_rfl) (by kernel_rfl) (by kernel_rfl) (by kernel_rfl) rfl (fun _ => rfl) Tryd.underlying62 rfl ⟨_, rfl⟩ (by kernel_rfl) (.inl rfl) (fun k h => by cases h)
theorem ty64ok : TyFact Tryd.prog 64 ty64 := TyFact.of (by kernel_rfl) (by kernel_rfl) (by kernel_rfl) (by kernel_rfl) (by kernel_rfl) (by kernel_rfl) rfl (fun h => by cases h) Tryd.underlying64 rfl ⟨_, rfl, by kernel_rfl, by decide⟩ (by kernel_rfl) (.inl rfl) (fun k h => by cases h)
theorem ty67ok : TyFact Tryd.prog 67 ty67 := TyFact.of (by kernel_rfl) (by kernel_rfl) (by kernel_rfl) (by kernel_rfl) (by kernel_rfl) (by kernel_rfl) rfl (fun _ => rfl) Tryd.underlying67 rfl ⟨_, rfl⟩ (by kernel_rfl) (.inl rfl) (fun k h => by cases h)
theorem ty69ok : TyFact Tryd.prog 69 ty69 := TyFact.of (by kernel_rfl) (by kernel_rfl) (by kernel_rfl) (by kernel_rfl) (by kernel_rfl) (by kernel_rfl) rfl (fun h => by cases h) Tryd.underlying69 rfl ⟨_, rfl, by kernel_rfl, by decide⟩ (by kernel_rfl) (.inl rfl) (fun k h => by cases h)
theorem ty72ok : TyFact Tryd.prog 72 ty72 := TyFact.of (by kernel_rfl) (by kernel_rfl) (by kernel_rfl) (by kernel_rfl) (by kernel_rfl) (by kernel_rfl) rfl (fun _ => rfl) Tryd.underlying72 rfl ⟨_, _, _, rfl⟩ (by kernel_rfl) (.inl rfl) (fun k h => by cases h)
theorem ty79ok : TyFact Tryd.prog 79 ty79 := TyFact.of (by kernel_rfl) (by kernel_rfl) (by kernel_rfl) (by kernel_rfl) (by kernel_rfl) (by kernel_rfl) rfl (fun _ => rfl) Tryd.underlying79 rfl ⟨_, _, _, rfl⟩ (by kernel_rfl) (.inl rfl) (fun k h => by cases h)
theorem ty89ok : TyFact Tryd.prog 89 ty89 := TyFact.of (by kernel_rfl) (by kernel_rfl) (by kernel_rfl) (by kernel_rfl) (by kernel_rfl) (by kernel_rfl) rfl (fun _ => rfl) Tryd.underlying89 rfl ⟨_, rfl⟩ (by kernel_rfl) (.inl rfl) (fun k h => by cases h)
theorem ty95ok : TyFact Tryd.prog 95 ty95 := TyFact.of (by kernel_rfl) (by kernel_rfl) (by kernel_rfl) (by kernel_rfl) (by kernel_rfl) (by kernel_rfl) rfl (fun _ => rfl) Tryd.underlying95 rfl rfl (by kernel_rfl) (.inl rfl) (fun k h => by cases h)
theorem ty98ok : TyFact Tryd.prog 98 ty98 := TyFact.of (by kernel_rfl) (by kernel_rfl) (by kernel_rfl) (by kernel_rfl) (by kernel_rfl) (by kernel_rfl) rfl (fun _ => rfl) Tryd.underlying98 rfl rfl (by kernel_rfl) (.inl rfl) (fun k h => by cases h)
theorem ty100ok : TyFact Tryd.prog 100 ty100 := TyFact.of (by kernel_rfl) (by kernel_rfl) (by kernel_rfl) (by kernel_rfl) (by kernel_rfl) (by kernel_rfl) rfl (fun _ => rfl) Tryd.underlying100 rfl trivial (by kernel_rfl) (.inl rfl) (fun k h => by cases h)
theorem ty103ok : TyFact Tryd.prog 103 ty103 := TyFact.of (by kernel_rfl) (by kernel_rfl) (by kernel_rfl) (by kernel_rfl) (by kernel_rfl) (by kernel_rfl) rfl (fun h => by cases h) Tryd.underlying103 rfl trivial (by kernel_rfl) (.inl rfl) (fun k h => by cases h)
theorem ty104ok : TyFact Tryd.prog 104 ty104 := TyFact.of (by kernel_rfl) (by kernel_rfl) (by kernel_rfl) (by kernel_rfl) (by kernel_rfl) (by kernel_rfl) rfl (fun _ => rfl) Tryd.underlying104 rfl ⟨_, rfl⟩ (by kernel_rfl) (.inl rfl) (fun k h => by cases h; exact Tryd.underlying104)
theorem ty110ok : TyFact Tryd.prog 110 ty110 := TyFact.of (by kernel_rfl) (by kernel_rfl) (by kernel_rfl) (by kernel_rfl) (by kernel_rfl) (by kernel_rfl) rfl (fun h => by cases h) Tryd.underlying110 rfl trivial (by kernel_rfl) (.inl rfl) (fun k h => by cases h)
theorem ty111ok : TyFact Tryd.prog 111 ty111 := TyFact.of (by kernel_rfl) (by kernel_rfl) (by kernel_rfl) (by kernel_rfl) (by kernel_rfl) (by kernel_rfl) rfl (fun _ => rfl) Tryd.underlying111 rfl ⟨_, rfl⟩ (by kernel_rfl) (.inl rfl) (fun k h => by cases h; exact Tryd.underlying111)
theorem ty112ok : TyFact Tryd.prog 112 ty112 := TyFact.of (by kernel_rfl) (by kernel_rfl) (by kernel_rfl) (by kernel_rfl) (by kernel_rfl) (by kernel_rfl) rfl (fun h => by cases h) Tryd.underlying112 rfl trivial (by kernel_rfl) (.inl rfl) (fun k h => by cases h)
theorem ty113ok : TyFact Tryd.prog 113 ty113 := TyFact.of (by kernel_rfl) (by kernel_rfl) (by kernel_rfl) (by kernel_rfl) (by kernel_rfl) (by kernel_rfl) rfl (fun _ => rfl) Tryd.underlying113 rfl ⟨_, rfl⟩ (by kernel_rfl) (.inl rfl) (fun k h => by cases h; exact Tryd.underlying113)
theorem ty116ok : TyFact Tryd.prog 116 ty116 := TyFact.of (by kernel_rfl) (by kernel_rfl) (by kernel_rfl) (by kernel_rfl) (by kernel_rfl) (by kernel_rfl) rfl (fun h => by cases h) Tryd.underlying116 rfl trivial (by kernel_rfl) (.inl rfl) (fun k h => by cases h)
theorem ty117ok : TyFact Tryd.prog 117 ty117 := TyFact.of (by kernel_rfl) (by kernel_rfl) (by kernel_rfl) (by kernel_rfl) (by kernel_rfl) (by kernel_rfl) rfl (fun h => by cases h) Tryd.underlying117 rfl trivial (by kernel_rfl) (.inl rfl) (fun k h => by cases h)
theorem tyok : TyOk Tryd.prog tT := by
  intro t ti h
  unfold tT at h
  split at h
  · cases h; exact ty1ok
  · cases h; exact ty2ok
  · cases h; exact ty3ok
  · cases h; exact ty4ok
  · cases h; exact ty5ok
  · cases h; exact ty6ok
  · cases h; exact ty9ok
  · cases h; exact ty12ok
  · cases h; exact ty20ok
  · cases h; exact ty22ok
  · cases h; exact ty23ok
  · cases h; exact ty25ok
  · cases h; exact ty28ok
  · cases h; exact ty30ok
  · cases h; exact ty40ok
  · cases h; exact ty51ok
  · cases h; exact ty53ok
  · cases h; exact ty54ok
  · cases h; exact ty56ok
  · cases h; exact ty60ok
  · cases h; exact ty62ok
  · cases h; exact ty64ok
  · cases h; exact ty67ok
  · cases h; exact ty69ok
  · cases h; exact ty72ok
  · cases h; exact ty79ok
  · cases h; exact ty89ok
  · cases h; exact ty95ok
  · cases h; exact ty98ok
  · cases h; exact ty100ok
  · cases h; exact ty103ok
  · cases h; exact ty104ok
  · cases h; exact ty110ok
  · cases h; exact ty111ok
  · cases h; exact ty112ok
  · cases h; exact ty113ok
  · cases h; exact ty116ok
  · cases h; exact ty117ok
  · cases h
theorem fok : ∀ f F, fF f = some F → Tryd.prog.funcs[f]? = some F ∧ (F.name == "runtime.NumGoroutine") = false := by
  intro f F h
  unfold fF at h
  split at h
  · cases h; exact ⟨Tryd.func3, by kernel_rfl⟩
  · cases h; exact ⟨Tryd.func4, by kernel_rfl⟩
  · cases h; exact ⟨Tryd.func5, by kernel_rfl⟩
  · cases h; exact ⟨Tryd.func6, by kernel_rfl⟩
  · cases h; exact ⟨Tryd.func7, by kernel_rfl⟩
  · cases h; exact ⟨Tryd.func8, by kernel_rfl⟩
  · cases h; exact ⟨Tryd.func9, by kernel_rfl⟩
  · cases h; exact ⟨Tryd.func10, by kernel_rfl⟩
  · cases h; exact ⟨Tryd.func11, by kernel_rfl⟩
  · cases h; exact ⟨Tryd.func12, by kernel_rfl⟩
  · cases h; exact ⟨Tryd.func13, by kernel_rfl⟩
  · cases h; exact ⟨Tryd.func14, by kernel_rfl⟩
  · cases h; exact ⟨Tryd.func15, by kernel_rfl⟩
  · cases h; exact ⟨Tryd.func16, by kernel_rfl⟩
  · cases h; exact ⟨Tryd.func17, by kernel_rfl⟩
  · cases h; exact ⟨Tryd.func18, by kernel_rfl⟩
  · cases h; exact ⟨Tryd.func19, by kernel_rfl⟩
  · cases h; exact ⟨Tryd.func20, by kernel_rfl⟩
  · cases h; exact ⟨Tryd.func21, by kernel_rfl⟩
  · cases h; exact ⟨Tryd.func22, by kernel_rfl⟩
  · cases h; exact ⟨Tryd.func23, by kernel_rfl⟩
  · cases h; exact ⟨Tryd.func24, by kernel_rfl⟩
  · cases h; exact ⟨Tryd.func25, by kernel_rfl⟩
  · cases h; exact ⟨Tryd.func26, by kernel_rfl⟩
  · cases h; exact ⟨Tryd.func27, by kernel_rfl⟩
  · cases h; exact ⟨Tryd.func28, by kernel_rfl⟩
  · cases h; exact ⟨Tryd.func29, by kernel_rfl⟩
  · cases h; exact ⟨Tryd.func30, by kernel_rfl⟩
  · cases h; exact ⟨Tryd.func31, by kernel_rfl⟩
  · cases h; exact ⟨Tryd.func32, by kernel_rfl⟩
  · cases h; exact ⟨Tryd.func33, by kernel_rfl⟩
  · cases h; exact ⟨Tryd.func34, by kernel_rfl⟩
  · cases h; exact ⟨Tryd.func35, by kernel_rfl⟩
  · cases h; exact ⟨Tryd.func36, by kernel_rfl⟩
  · cases h; exact ⟨Tryd.func37, by kernel_rfl⟩
  · cases h; exact ⟨Tryd.func38, by kernel_rfl⟩
  · cases h; exact ⟨Tryd.func39, by kernel_rfl⟩
  · cases h; exact ⟨Tryd.func40, by kernel_rfl⟩
  · cases h; exact ⟨Tryd.func42, by kernel_rfl⟩
  · cases h; exact ⟨Tryd.func43, by kernel_rfl⟩
  · cases h; exact ⟨Tryd.func44, by kernel_rfl⟩
  · cases h; exact ⟨Tryd.func45, by kernel_rfl⟩
  · cases h; exact ⟨Tryd.func46, by kernel_rfl⟩
  · cases h; exact ⟨Tryd.func47, by kernel_rfl⟩
  · cases h; exact ⟨Tryd.func48, by kernel_rfl⟩
  · cases h; exact ⟨Tryd.func49, by kernel_rfl⟩
  · cases h; exact ⟨Tryd.func50, by kernel_rfl⟩
  · cases h; exact ⟨Tryd.func51, by kernel_rfl⟩
  · cases h; exact ⟨Tryd.func52, by kernel_rfl⟩
  · cases h; exact ⟨Tryd.func53, by kernel_rfl⟩
  · cases h; exact ⟨Tryd.func54, by kernel_rfl⟩
  · cases h; exact ⟨Tryd.func55, by kernel_rfl⟩
  · cases h; exact ⟨Tryd.func56, by kernel_rfl⟩
  · cases h; exact ⟨Tryd.func57, by kernel_rfl⟩
  · cases h; exact ⟨Tryd.func58, by kernel_rfl⟩
  · cases h; exact ⟨Tryd.func59, by kernel_rfl⟩
  · cases h; exact ⟨Tryd.func60, by kernel_rfl⟩
  · cases h; exact ⟨Tryd.func61, by kernel_rfl⟩
  · cases h; exact ⟨Tryd.func62, by kernel_rfl⟩
  · cases h; exact ⟨Tryd.func63, by kernel_rfl⟩
  · cases h; exact ⟨Tryd.func64, by kernel_rfl⟩
  · cases h; exact ⟨Tryd.func65, by kernel_rfl⟩
  · cases h; exact ⟨Tryd.func66, by kernel_rfl⟩
  · cases h; exact ⟨Tryd.func67, by kernel_rfl⟩
  · cases h; exact ⟨Tryd.func68, by kernel_rfl⟩
  · cases h; exact ⟨Tryd.func69, by kernel_rfl⟩
  · cases h; exact ⟨Tryd.func70, by kernel_rfl⟩
  · cases h; exact ⟨Tryd.func71, by kernel_rfl⟩
  · cases h; exact ⟨Tryd.func72, by kernel_rfl⟩
  · cases h; exact ⟨Tryd.func74, by kernel_rfl⟩
  · cases h; exact ⟨Tryd.func75, by kernel_rfl⟩
  · cases h; exact ⟨Tryd.func76, by kernel_rfl⟩
  · cases h; exact ⟨Tryd.func77, by kernel_rfl⟩
  · cases h; exact ⟨Tryd.func78, by kernel_rfl⟩
  · cases h; exact ⟨Tryd.func79, by kernel_rfl⟩
  · cases h; exact ⟨Tryd.func80, by kernel_rfl⟩
  · cases h; exact ⟨Tryd.func81, by kernel_rfl⟩
  · cases h; exact ⟨Tryd.func82, by kernel_rfl⟩
  · cases h; exact ⟨Tryd.func83, by kernel_rfl⟩
  · cases h; exact ⟨Tryd.func84, by kernel_rfl⟩
  · cases h; exact ⟨Tryd.func85, by kernel_rfl⟩
  · cases h; exact ⟨Tryd.func86, by kernel_rfl⟩
  · cases h; exact ⟨Tryd.func87, by kernel_rfl⟩
  · cases h; exact ⟨Tryd.func88, by kernel_rfl⟩
  · cases h; exact ⟨Tryd.func89, by kernel_rfl⟩
  · cases h; exact ⟨Tryd.func90, by kernel_rfl⟩
  · cases h; exact ⟨Tryd.func91, by kernel_rfl⟩
  · cases h; exact ⟨Tryd.func92, by kernel_rfl⟩
  · cases h; exact ⟨Tryd.func93, by kernel_rfl⟩
  · cases h; exact ⟨Tryd.func94, by kernel_rfl⟩
  · cases h; exact ⟨Tryd.func95, by kernel_rfl⟩
  · cases h; exact ⟨Tryd.func96, by kernel_rfl⟩
  · cases h; exact ⟨Tryd.func97, by kernel_rfl⟩
  · cases h; exact ⟨Tryd.func100, by kernel_rfl⟩
  · cases h; exact ⟨Tryd.func101, by kernel_rfl⟩
  · cases h; exact ⟨Tryd.func102, by kernel_rfl⟩
  · cases h; exact ⟨Tryd.func103, by kernel_rfl⟩
  · cases h; exact ⟨Tryd.func104, by kernel_rfl⟩
  · cases h; exact ⟨Tryd.func105, by kernel_rfl⟩
  · cases h; exact ⟨Tryd.func108, by kernel_rfl⟩
  · cases h; exact ⟨Tryd.func109, by kernel_rfl⟩
  · cases h; exact ⟨Tryd.func115, by kernel_rfl⟩
  · cases h; exact ⟨Tryd.func118, by kernel_rfl⟩
  · cases h; exact ⟨Tryd.func119, by kernel_rfl⟩
  · cases h; exact ⟨Tryd.func120, by kernel_rfl⟩
  · cases h
theorem cok3 : (match Tryd.f3.body with
    | some c => codeOk (hH 3) c
    | none => true) = true := by kernel_rfl
theorem cok4 : (match Tryd.f4.body with
    | some c => codeOk (hH 4) c
    | none => true) = true := by kernel_rfl
theorem cok5 : (match Tryd.f5.body with
    | some c => codeOk (hH 5) c
    | none => true) = true := by kernel_rfl
theorem cok6 : (match Tryd.f6.body with
    | some c => codeOk (hH 6) c
    | none => true) = true := by kernel_rfl
theorem cok7 : (match Tryd.f7.body with
    | some c => codeOk (hH 7) c
    | none => true) = true := by kernel_rfl
theorem cok8 : (match Tryd.f8.body with
    | some c => codeOk (hH 8) c
    | none => true) = true := by kernel_rfl
theorem cok9 : (match Tryd.f9.body with
    | some c => codeOk (hH 9) c
    | none => true) = true := by kernel_rfl
theorem cok10 : (match Tryd.f10.body with
    | some c => codeOk (hH 10) c
    | none => true) = true := by kernel_rfl
theorem cok11 : (match Tryd.f11.body with
    | some c => codeOk (hH 11) c
    | none => true) = true := by kernel_rfl
theorem cok12 : (match Tryd.f12.body with
    | some c => codeOk (hH 12) c
    | none => true) = true := by kernel_rfl
theorem cok13 : (match Tryd.f13.body with
    | some c => codeOk (hH 13) c
    | none => true) = true := by kernel_rfl
theorem cok14 : (match Tryd.f14.body with
    | some c => codeOk (hH 14) c
    | none => true) = true := by kernel_rfl
theorem cok15 : (match Tryd.f15.body with
    | some c => codeOk (hH 15) c
    | none => true) = true := by kernel_rfl
theorem cok16 : (match Tryd.f16.body with
    | some c => codeOk (hH 16) c
    | none => true) = true := by kernel_rfl
theorem cok17 : (match Tryd.f17.body with
    | some c => codeOk (hH 17) c
    | none => true) = true := by kernel_rfl
theorem cok18 : (match Tryd.f18.body with
    | some c => codeOk (hH 18) c
    | none => true) = true := by kernel_rfl
theorem cok19 : (match Tryd.f19.body with
    | some c => codeOk (hH 19) c
    | none => true) = true := by kernel_rfl
theorem cok20 : (match Tryd.f20.body with
    | some c => codeOk (hH 20) c
    | none => true) = true := by kernel_rfl
theorem cok21 : (match Tryd.f21.body with
    | some c => codeOk (hH 21) c
    | none => true) = true := by kernel_rfl
theorem cok22 : (match Tryd.f22.body with
    | some c => codeOk (hH 22) c
    | none => true) = true := by kernel_rfl
theorem cok23 : (match Tryd.f23.body with
    | some c => codeOk (hH 23) c
    | none => true) = true := by kernel_rfl
theorem cok24 : (match Tryd.f24.body with
    | some c => codeOk (hH 24) c
    | none => true) = true := by kernel_rfl
theorem cok25 : (match Tryd.f25.body with
    | some c => codeOk (hH 25) c
    | none => true) = true := by kernel_rfl
theorem cok26 : (match Tryd.f26.body with
    | some c => codeOk (hH 26) c
    | none => true) = true := by kernel_rfl
theorem cok27 : (match Tryd.f27.body with
    | some c => codeOk (hH 27) c
    | none => true) = true := by kernel_rfl
theorem cok28 : (match Tryd.f28.body with
    | some c => codeOk (hH 28) c
    | none => true) = true := by kernel_rfl
theorem cok29 : (match Tryd.f29.body with
    | some c => codeOk (hH 29) c
    | none => true) = true := by kernel_rfl
theorem cok30 : (match Tryd.f30.body with
    | some c => codeOk (hH 30) c
    | none => true) = true := by kernel_rfl
theorem cok31 : (match Tryd.f31.body with
    | some c => codeOk (hH 31) c
    | none => true) = true := by kernel_rfl
theorem cok32 : (match Tryd.f32.body with
    | some c => codeOk (hH 32) c
    | none => true) = true := by kernel_rfl
theorem cok33 : (match Tryd.f33.body with
    | some c => codeOk (hH 33) c
    | none => true) = true := by kernel_rfl
theorem cok34 : (match Tryd.f34.body with
    | some c => codeOk (hH 34) c
    | none => true) = true := by kernel_rfl
theorem cok35 : (match Tryd.f35.body with
    | some c => codeOk (hH 35) c
    | none => true) = true := by kernel_rfl
theorem cok36 : (match Tryd.f36.body with
    | some c => codeOk (hH 36) c
    | none => true) = true := by kernel_rfl
theorem cok37 : (match Tryd.f37.body with
    | some c => codeOk (hH 37) c
    | none => true) = true := by kernel_rfl
theorem cok38 : (match Tryd.f38.body with
    | some c => codeOk (hH 38) c
    | none => true) = true := by kernel_rfl
theorem cok39 : (match Tryd.f39.body with
    | some c => codeOk (hH 39) c
    | none => true) = true := by kernel_rfl
theorem cok40 : (match Tryd.f40.body with
    | some c => codeOk (hH 40) c
    | none => true) = true := by kernel_rfl
theorem cok42 : (match Tryd.f42.body with
    | some c => codeOk (hH 42) c
    | none => true) = true := by kernel_rfl
theorem cok43 : (match Tryd.f43.body with
    | some c => codeOk (hH 43) c
    | none => true) = true := by kernel_rfl
theorem cok44 : (match Tryd.f44.body with
    | some c => codeOk (hH 44) c
    | none => true) = true := by kernel_rfl
theorem cok45 : (match Tryd.f45.body with
    | some c => codeOk (hH 45) c
    | none => true) = true := by kernel_rfl
theorem cok46 : (match Tryd.f46.body with
    | some c => codeOk (hH 46) c
    | none => true) = true := by kernel_rfl
theorem cok47 : (match Tryd.f47.body with
    | some c => codeOk (hH 47) c
    | none => true) = true := by kernel_rfl
theorem cok48 : (match Tryd.f48.body with
    | some c => codeOk (hH 48) c
    | none => true) = true := by kernel_rfl
theorem cok49 : (match Tryd.f49.body with
    | some c => codeOk (hH 49) c
    | none => true) = true := by kernel_rfl
theorem cok50 : (match Tryd.f50.body with
    | some c => codeOk (hH 50) c
    | none => true) = true := by kernel_rfl
theorem cok51 : (match Tryd.f51.body with
    | some c => codeOk (hH 51) c
    | none => true) = true := by kernel_rfl
theorem cok52 : (match Tryd.f52.body with
    | some c => codeOk (hH 52) c
    | none => true) = true := by kernel_rfl
theorem cok53 : (match Tryd.f53.body with
    | some c => codeOk (hH 53) c
    | none => true) = true := by kernel_rfl
theorem cok54 : (match Tryd.f54.body with
    | some c => codeOk (hH 54) c
    | none => true) = true := by kernel_rfl
theorem cok55 : (match Tryd.f55.body with
    | some c => codeOk (hH 55) c
    | none => true) = true := by kernel_rfl
theorem cok56 : (match Tryd.f56.body with
    | some c => codeOk (hH 56) c
    | none => true) = true := by kernel_rfl
theorem cok57 : (match Tryd.f57.body with
    | some c => codeOk (hH 57) c
    | none => true) = true := by kernel_rfl
theorem cok58 : (match Tryd.f58.body with
    | some c => codeOk (hH 58) c
    | none => true) = true := by kernel_rfl
theorem cok59 : (match Tryd.f59.body with
    | some c => codeOk (hH 59) c
    | none => true) = true := by kernel_rfl
theorem cok60 : (match Tryd.f60.body with
    | some c => codeOk (hH 60) c
    | none => true) = true := by kernel_rfl
theorem cok61 : (match Tryd.f61.body with
    | some c => codeOk (hH 61) c
    | none => true) = true := by kernel_rfl
theorem cok62 : (match Tryd.f62.body with
    | some c => codeOk (hH 62) c
    | none => true) = true := by kernel_rfl
theorem cok63 : (match Tryd.f63.body with
    | some c => codeOk (hH 63) c
    | none => true) = true := by kernel_rfl
theorem cok64 : (match Tryd.f64.body with
    | some c => codeOk (hH 64) c
    | none => true) = true := by kernel_rfl
theorem cok65 : (match Tryd.f65.body with
    | some c => codeOk (hH 65) c
    | none => true) = true := by kernel_rfl
theorem cok66 : (match Tryd.f66.body with
    | some c => codeOk (hH 66) c
    | none => true) = true := by kernel_rfl
theorem cok67 : (match Tryd.f67.body with
    | some c => codeOk (hH 67) c
    | none => true) = true := by kernel_rfl
theorem cok68 : (match Tryd.f68.body with
    | some c => codeOk (hH 68) c
    | none => true) = true := by kernel_rfl
theorem cok69 : (match Tryd.f69.body with
    | some c => codeOk (hH 69) c
    | none => true) = true := by kernel_rfl
theorem cok70 : (match Tryd.f70.body with
    | some c => codeOk (hH 70) c
    | none => true) = true := by kernel_rfl
theorem cok71 : (match Tryd.f71.body with
    | some c => codeOk (hH 71) c
    | none => true) = true := by kernel_rfl
theorem cok72 : (match Tryd.f72.body with
    | some c => codeOk (hH 72) c
    | none => true) = true := by kernel_rfl
theorem cok74 : (match Tryd.f74.body with
    | some c => codeOk (hH 74) c
    | none => true) = true := by kernel_rfl
theorem cok75 : (match Tryd.f75.body with
    | some c => codeOk (hH 75) c
    | none => true) = true := by kernel_rfl
theorem cok76 : (match Tryd.f76.body with
    | some c => codeOk (hH 76) c
    | none => true) = true := by kernel_rfl
theorem cok77 : (match Tryd.f77.body with
    | some c => codeOk (hH 77) c
    | none => true) = true := by kernel_rfl
theorem cok78 : (match Tryd.f78.body with
    | some c => codeOk (hH 78) c
    | none => true) = true := by kernel_rfl
theorem cok79 : (match Tryd.f79.body with
    | some c => codeOk (hH 79) c
    | none => true) = true := by kernel_rfl
theorem cok80 : (match Tryd.f80.body with
    | some c => codeOk (hH 80) c
    | none => true) = true := by kernel_rfl
theorem cok81 : (match Tryd.f81.body with
    | some c => codeOk (hH 81) c
    | none => true) = true := by kernel_rfl
theorem cok82 : (match Tryd.f82.body with
    | some c => codeOk (hH 82) c
    | none => true) = true := by kernel_rfl
theorem cok83 : (match Tryd.f83.body with
    | some c => codeOk (hH 83) c
    | none => true) = true := by kernel_rfl
theorem cok84 : (match Tryd.f84.body with
    | some c => codeOk (hH 84) c
    | none => true) = true := by kernel_rfl
theorem cok85 : (match Tryd.f85.body with
    | some c => codeOk (hH 85) c
    | none => true) = true := by kernel_rfl
theorem cok86 : (match Tryd.f86.body with
    | some c => codeOk (hH 86) c
    | none => true) = true := by kernel_rfl
theorem cok87 : (match Tryd.f87.body with
    | some c => codeOk (hH 87) c
    | none => true) = true := by kernel_rfl
theorem cok88 : (match Tryd.f88.body with
    | some c => codeOk (hH 88) c
    | none => true) = true := by kernel_rfl
theorem cok89 : (match Tryd.f89.body with
    | some c => codeOk (hH 89) c
    | none => true) = true := by kernel_rfl
theorem cok90 : (match Tryd.f90.body with
    | some c => codeOk (hH 90) c
    | none => true) = true := by kernel_rfl
theorem cok91 : (match Tryd.f91.body with
    | some c => codeOk (hH 91) c
    | none => true) = true := by kernel_rfl
theorem cok92 : (match Tryd.f92.body with
    | some c => codeOk (hH 92) c
    | none => true) = true := by kernel_rfl
theorem cok93 : (match Tryd.f93.body with
    | some c => codeOk (hH 93) c
    | none => true) = true := by kernel_rfl
theorem cok94 : (match Tryd.f94.body with
    | some c => codeOk (hH 94) c
    | none => true) = true := by kernel_rfl
theorem cok95 : (match Tryd.f95.body with
    | some c => codeOk (hH 95) c
    | none => true) = true := by kernel_rfl
theorem cok96 : (match Tryd.f96.body with
    | some c => codeOk (hH 96) c
    | none => true) = true := by kernel_rfl
theorem cok97 : (match Tryd.f97.body with
    | some c => codeOk (hH 97) c
    | none => true) = true := by kernel_rfl
theorem cok100 : (match Tryd.f100.body with
    | some c => codeOk (hH 100) c
    | none => true) = true := by kernel_rfl
theorem cok101 : (match Tryd.f101.body with
    | some c => codeOk (hH 101) c
    | none => true) = true := by kernel_rfl
theorem cok102 : (match Tryd.f102.body with
    | some c => codeOk (hH 102) c
    | none => true) = true := by kernel_rfl
theorem cok103 : (match Tryd.f103.body with
    | some c => codeOk (hH 103) c
    | none => true) = true := by kernel_rfl
theorem cok104 : (match Tryd.f104.body with
    | some c => codeOk (hH 104) c
    | none => true) = true := by kernel_rfl
theorem cok105 : (match Tryd.f105.body with
    | some c => codeOk (hH 105) c
    | none => true) = true := by kernel_rfl
theorem cok108 : (match Tryd.f108.body with
    | some c => codeOk (hH 108) c
    | none => true) = true := by kernel_rfl
theorem cok109 : (match Tryd.f109.body with
    | some c => codeOk (hH 109) c
    | none => true) = true := by kernel_rfl
theorem cok115 : (match Tryd.f115.body with
    | some c => codeOk (hH 115) c
    | none => true) = true := by kernel_rfl
theorem cok118 : (match Tryd.f118.body with
    | some c => codeOk (hH 118) c
    | none => true) = true := by kernel_rfl
theorem cok119 : (match Tryd.f119.body with
    | some c => codeOk (hH 119) c
    | none => true) = true := by kernel_rfl
theorem cok120 : (match Tryd.f120.body with
    | some c => codeOk (hH 120) c
    | none => true) = true := by kernel_rfl
theorem hok : ∀ f F code, fF f = some F → F.body = some code → codeOk (hH f) code = true := by
  intro f F code h hb
  unfold fF at h
  split at h
  · cases h; have := cok3; rw [hb] at this; exact this
  · cases h; have := cok4; rw [hb] at this; exact this
  · cases h; have := cok5; rw [hb] at this; exact this
  · cases h; have := cok6; rw [hb] at this; exact this
  · cases h; have := cok7; rw [hb] at this; exact this
  · cases h; have := cok8; rw [hb] at this; exact this
  · cases h; have := cok9; rw [hb] at this; exact this
  · cases h; have := cok10; rw [hb] at this; exact this
  · cases h; have := cok11; rw [hb] at this; exact this
  · cases h; have := cok12; rw [hb] at this; exact this
  · cases h; have := cok13; rw [hb] at this; exact this
  · cases h; have := cok14; rw [hb] at this; exact this
  · cases h; have := cok15; rw [hb] at this; exact this
  · cases h; have := cok16; rw [hb] at this; exact this
  · cases h; have := cok17; rw [hb] at this; exact this
  · cases h; have := cok18; rw [hb] at this; exact this
  · cases h; have := cok19; rw [hb] at this; exact this
  · cases h; have := cok20; rw [hb] at this; exact this
  · cases h; have := cok21; rw [hb] at this; exact this
  · cases h; have := cok22; rw [hb] at this; exact this
  · cases h; have := cok23; rw [hb] at this; exact this
  · cases h; have := cok24; rw [hb] at this; exact this
  · cases h; have := cok25; rw [hb] at this; exact this
  · cases h; have := cok26; rw [hb] at this; exact this
  · cases h; have := cok27; rw [hb] at this; exact this
  · cases h; have := cok28; rw [hb] at this; exact this
  · cases h; have := cok29; rw [hb] at this; exact this
  · cases h; have := cok30; rw [hb] at this; exact this
  · cases h; have := cok31; rw [hb] at this; exact this
  · cases h; have := cok32; rw [hb] at this; exact this
  · cases h; have := cok33; rw [hb] at this; exact this
  · cases h; have := cok34; rw [hb] at this; exact this
  · cases h; have := cok35; rw [hb] at this; exact this
  · cases h; have := cok36; rw [hb] at this; exact this
  · cases h; have := cok37; rw [hb] at this; exact this
  · cases h; have := cok38; rw [hb] at this; exact this
  · cases h; have := cok39; rw [hb] at this; exact this
  · cases h; have := cok40; rw [hb] at this; exact this
  · cases h; have := cok42; rw [hb] at this; exact this
  · cases h; have := cok43; rw [hb] at this; exact this
  · cases h; have := cok44; rw [hb] at this; exact this
  · cases h; have := cok45; rw [hb] at this; exact this
  · cases h; have := cok46; rw [hb] at this; exact this
  · cases h; have := cok47; rw [hb] at this; exact this
  · cases h; have := cok48; rw [hb] at this; exact this
  · cases h; have := cok49; rw [hb] at this; exact this
  · cases h; have := cok50; rw [hb] at this; exact this
  · cases h; have := cok51; rw [hb] at this; exact this
  · cases h; have := cok52; rw [hb] at this; exact this
  · cases h; have := cok53; rw [hb] at this; exact this
  · cases h; have := cok54; rw [hb] at this; exact this
  · cases h; have := cok55; rw [hb] at this; exact this
  · cases h; have := cok56; rw [hb] at this; exact this
  · cases h; have := cok57; rw [hb] at this; exact this
  · cases h; have := cok58; rw [hb] at this; exact this
  · cases h; have := cok59; rw [hb] at this; exact this
  · cases h; have := cok60; rw [hb] at this; exact this
  · cases h; have := cok61; rw [hb] at this; exact this
  · cases h; have := cok62; rw [hb] at this; exact this
  · cases h; have := cok63; rw [hb] at this; exact this
  · cases h; have := cok64; rw [hb] at this; exact this
  · cases h; have := cok65; rw [hb] at this; exact this
  · cases h; have := cok66; rw [hb] at this; exact this
  · cases h; have := cok67; rw [hb] at this; exact this
  · cases h; have := cok68; rw [hb] at this; exact this
  · cases h; have := cok69; rw [hb] at this; exact this
  · cases h; have := cok70; rw [hb] at this; exact this
  · cases h; have := cok71; rw [hb] at this; exact this
  · cases h; have := cok72; rw [hb] at this; exact this
  · cases h; have := cok74; rw [hb] at this; exact this
  · cases h; have := cok75; rw [hb] at this; exact this
  · cases h; have := cok76; rw [hb] at this; exact this
  · cases h; have := cok77; rw [hb] at this; exact this
  · cases h; have := cok78; rw [hb] at this; exact this
  · cases h; have := cok79; rw [hb] at this; exact this
  · cases h; have := cok80; rw [hb] at this; exact this
  · cases h; have := cok81; rw [hb] at this; exact this
  · cases h; have := cok82; rw [hb] at this; exact this
  · cases h; have := cok83; rw [hb] at this; exact this
  · cases h; have := cok84; rw [hb] at this; exact this
  · cases h; have := cok85; rw [hb] at this; exact this
  · cases h; have := cok86; rw [hb] at this; exact this
  · cases h; have := cok87; rw [hb] at this; exact this
  · cases h; have := cok88; rw [hb] at this; exact this
  · cases h; have := cok89; rw [hb] at this; exact this
  · cases h; have := cok90; rw [hb] at this; exact this
  · cases h; have := cok91; rw [hb] at this; exact this
  · cases h; have := cok92; rw [hb] at this; exact this
  · cases h; have := cok93; rw [hb] at this; exact this
  · cases h; have := cok94; rw [hb] at this; exact this
  · cases h; have := cok95; rw [hb] at this; exact this
  · cases h; have := cok96; rw [hb] at this; exact this
  · cases h; have := cok97; rw [hb] at this; exact this
  · cases h; have := cok100; rw [hb] at this; exact this
  · cases h; have := cok101; rw [hb] at this; exact this
  · cases h; have := cok102; rw [hb] at this; exact this
  · cases h; have := cok103; rw [hb] at this; exact this
  · cases h; have := cok104; rw [hb] at this; exact this
  · cases h; have := cok105; rw [hb] at this; exact this
  · cases h; have := cok108; rw [hb] at this; exact this
  · cases h; have := cok109; rw [hb] at this; exact this
  · cases h; have := cok115; rw [hb] at this; exact this
  · cases h; have := cok118; rw [hb] at this; exact this
  · cases h; have := cok119; rw [hb] at this; exact this
  · cases h; have := cok120; rw [hb] at this; exact this
  · cases h
theorem mixok : Tryd.prog.follows .mixedOrders = true := by kernel_rfl
end Go.Proofs.YtehkgiofchmpaaaDoor
