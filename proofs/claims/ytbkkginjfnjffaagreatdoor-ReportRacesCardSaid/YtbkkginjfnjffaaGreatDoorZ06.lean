/- Texts Ty, Ay, Bc, Bd, Az, Lg, Ev, Ma, Mb, Ec. -/
import Derived.Test.YtbkkginjfnjffaaGreatDoorZ05
set_option maxHeartbeats 32000000
set_option maxRecDepth 100000
set_option linter.unusedSimpArgs false
set_option linter.unusedVariables false
namespace Go.Proofs.YtbkkginjfnjffaaGreatDoor
open Go.RowKit Go.Sort
theorem tys:((qy Tryz.prog 3=some 1)∧(qf Tryz.prog 3=some false)∧(scTy Tryz.prog 3=some 0)∧(zN Tryz.prog 3=some [Value.int IntKind.i64 0])∧(Tryz.prog.underlying 3=some (TypeDesc.int IntKind.i64))) ∧
  ((qy Tryz.prog 4=some 1)∧(qf Tryz.prog 4=some false)∧(scTy Tryz.prog 4=some 1)∧(zN Tryz.prog 4=some [Value.bool false])∧(Tryz.prog.underlying 4=some TypeDesc.bool)) ∧
  ((qy Tryz.prog 5=some 1)∧(qf Tryz.prog 5=some false)∧(scTy Tryz.prog 5=some 0)∧(zN Tryz.prog 5=some [Value.int IntKind.u8 0])∧(Tryz.prog.underlying 5=some (TypeDesc.int IntKind.u8))) ∧
  ((qy Tryz.prog 9=some 1)∧(qf Tryz.prog 9=some false)∧(scTy Tryz.prog 9=some 2)∧(zN Tryz.prog 9=some [Value.string ⟨#[]⟩])∧(Tryz.prog.underlying 9=some TypeDesc.string)) ∧
  ((qy Tryz.prog 22=some 1)∧(qf Tryz.prog 22=some false)∧(qP Tryz.prog 22=some 9)∧(zY Tryz.prog 22=some (33,9,72))∧(zN Tryz.prog 22=some [Value.slice none 0 0])∧(isSl Tryz.prog 22=true)∧(Tryz.prog.underlying 22=some (TypeDesc.slice 33))) ∧
  ((qy Tryz.prog 25=some 2)∧(qf Tryz.prog 25=some true)∧(zN Tryz.prog 25=some [Value.int IntKind.i64 0,Value.int IntKind.i64 0])∧(qJ Tryz.prog 25=some ([Value.int IntKind.i64 0,Value.int IntKind.i64 0],[(0,1),(1,1)]))∧(eqTy Tryz.prog 25=some [(0,0),(1,0)])∧(zK Tryz.prog 25 0=some 0)∧(zX Tryz.prog 25 0=some (3,0))∧(zK Tryz.prog 25 1=some 1)∧(zX Tryz.prog 25 1=some (3,1))) ∧
  ((qy Tryz.prog 26=some 1)∧(qf Tryz.prog 26=some false)∧(qP Tryz.prog 26=some 2)∧(zY Tryz.prog 26=some (25,2,16))∧(zN Tryz.prog 26=some [Value.slice none 0 0])∧(isSl Tryz.prog 26=true)∧(Tryz.prog.underlying 26=some (TypeDesc.slice 25))) ∧
  ((qy Tryz.prog 27=some 1)∧(qf Tryz.prog 27=some false)∧(qP Tryz.prog 27=some 1)∧(zY Tryz.prog 27=some (3,1,8))∧(zN Tryz.prog 27=some [Value.slice none 0 0])∧(isSl Tryz.prog 27=true)∧(Tryz.prog.underlying 27=some (TypeDesc.slice 3))) ∧
  ((qy Tryz.prog 29=some 2)∧(qf Tryz.prog 29=some true)∧(zN Tryz.prog 29=some [Value.slice none 0 0,Value.slice none 0 0])∧(qJ Tryz.prog 29=some ([Value.slice none 0 0,Value.slice none 0 0],[(0,1),(1,1)]))∧(zK Tryz.prog 29 0=some 0)∧(zX Tryz.prog 29 0=some (26,0))∧(zK Tryz.prog 29 1=some 1)∧(zX Tryz.prog 29 1=some (27,1))) ∧
  ((qy Tryz.prog 31=some 3)∧(qf Tryz.prog 31=some true)∧(zN Tryz.prog 31=some [Value.slice none 0 0,Value.slice none 0 0,Value.slice none 0 0])∧(qJ Tryz.prog 31=some ([Value.slice none 0 0,Value.slice none 0 0,Value.slice none 0 0],[(0,1),(1,2)]))∧(zK Tryz.prog 31 0=some 0)∧(zX Tryz.prog 31 0=some (22,0))∧(zK Tryz.prog 31 1=some 1)∧(zX Tryz.prog 31 1=some (29,1))) ∧
  ((qy Tryz.prog 33=some 9)∧(qf Tryz.prog 33=some true)∧(zN Tryz.prog 33=some [Value.int IntKind.i64 0,Value.int IntKind.i64 0,Value.int IntKind.i64 0,Value.int IntKind.i64 0,Value.int IntKind.i64 0,Value.int IntKind.i64 0,Value.int IntKind.i64 0,Value.int IntKind.i64 0,Value.int IntKind.i64 0])∧(qJ Tryz.prog 33=some ([Value.int IntKind.i64 0,Value.int IntKind.i64 0,Value.int IntKind.i64 0,Value.int IntKind.i64 0,Value.int IntKind.i64 0,Value.int IntKind.i64 0,Value.int IntKind.i64 0,Value.int IntKind.i64 0,Value.int IntKind.i64 0],[(0,1),(1,1),(2,1),(3,1),(4,1),(5,1),(6,1),(7,1),(8,1)]))∧(eqTy Tryz.prog 33=some [(0,0),(1,0),(2,0),(3,0),(4,0),(5,0),(6,0),(7,0),(8,0)])∧(zK Tryz.prog 33 0=some 0)∧(zX Tryz.prog 33 0=some (3,0))∧(zK Tryz.prog 33 1=some 1)∧(zX Tryz.prog 33 1=some (3,1))∧(zK Tryz.prog 33 2=some 2)∧(zX Tryz.prog 33 2=some (3,2))∧(zK Tryz.prog 33 3=some 3)∧(zX Tryz.prog 33 3=some (3,3))∧(zK Tryz.prog 33 4=some 4)∧(zX Tryz.prog 33 4=some (3,4))∧(zK Tryz.prog 33 5=some 5)∧(zX Tryz.prog 33 5=some (3,5))∧(zK Tryz.prog 33 6=some 6)∧(zX Tryz.prog 33 6=some (3,6))∧(zK Tryz.prog 33 7=some 7)∧(zX Tryz.prog 33 7=some (3,7))∧(zK Tryz.prog 33 8=some 8)∧(zX Tryz.prog 33 8=some (3,8))) ∧
  ((qy Tryz.prog 34=some 1)∧(qf Tryz.prog 34=some false)∧(qP Tryz.prog 34=some 2)∧(zY Tryz.prog 34=some (45,2,16))∧(zN Tryz.prog 34=some [Value.slice none 0 0])∧(isSl Tryz.prog 34=true)∧(Tryz.prog.underlying 34=some (TypeDesc.slice 45))) ∧
  ((qy Tryz.prog 36=some 1)∧(qf Tryz.prog 36=some false)∧(qP Tryz.prog 36=some 7)∧(zY Tryz.prog 36=some (41,7,88))∧(zN Tryz.prog 36=some [Value.slice none 0 0])∧(isSl Tryz.prog 36=true)∧(Tryz.prog.underlying 36=some (TypeDesc.slice 41))) ∧
  ((qy Tryz.prog 37=some 1)∧(qf Tryz.prog 37=some false)∧(scTy Tryz.prog 37=some 0)∧(zN Tryz.prog 37=some [Value.int IntKind.i64 0])∧(Tryz.prog.underlying 37=some (TypeDesc.int IntKind.i64))) ∧
  ((qy Tryz.prog 41=some 7)∧(qf Tryz.prog 41=some true)∧(zN Tryz.prog 41=some [Value.int IntKind.i64 0,Value.int IntKind.i64 0,Value.int IntKind.i64 0,Value.int IntKind.i64 0,Value.slice none 0 0,Value.slice none 0 0,Value.int IntKind.i64 0])∧(qJ Tryz.prog 41=some ([Value.int IntKind.i64 0,Value.int IntKind.i64 0,Value.int IntKind.i64 0,Value.int IntKind.i64 0,Value.slice none 0 0,Value.slice none 0 0,Value.int IntKind.i64 0],[(0,1),(1,1),(2,1),(3,1),(4,1),(5,1),(6,1)]))∧(zK Tryz.prog 41 0=some 0)∧(zX Tryz.prog 41 0=some (3,0))∧(zK Tryz.prog 41 1=some 1)∧(zX Tryz.prog 41 1=some (3,1))∧(zK Tryz.prog 41 2=some 2)∧(zX Tryz.prog 41 2=some (3,2))∧(zK Tryz.prog 41 3=some 3)∧(zX Tryz.prog 41 3=some (3,3))∧(zK Tryz.prog 41 4=some 4)∧(zX Tryz.prog 41 4=some (26,4))∧(zK Tryz.prog 41 5=some 5)∧(zX Tryz.prog 41 5=some (26,5))∧(zK Tryz.prog 41 6=some 6)∧(zX Tryz.prog 41 6=some (3,6))) ∧
  ((qy Tryz.prog 45=some 2)∧(qf Tryz.prog 45=some true)∧(zN Tryz.prog 45=some [Value.int IntKind.i64 0,Value.int IntKind.i64 0])∧(qJ Tryz.prog 45=some ([Value.int IntKind.i64 0,Value.int IntKind.i64 0],[(0,1),(1,1)]))∧(eqTy Tryz.prog 45=some [(0,0),(1,0)])∧(zK Tryz.prog 45 0=some 0)∧(zX Tryz.prog 45 0=some (3,0))∧(zK Tryz.prog 45 1=some 1)∧(zX Tryz.prog 45 1=some (3,1))) ∧
  ((qy Tryz.prog 46=some 1)∧(qf Tryz.prog 46=some false)∧(qP Tryz.prog 46=some 5)∧(zY Tryz.prog 46=some (55,5,40))∧(zN Tryz.prog 46=some [Value.slice none 0 0])∧(isSl Tryz.prog 46=true)∧(Tryz.prog.underlying 46=some (TypeDesc.slice 55))) ∧
  ((qy Tryz.prog 48=some 4)∧(qf Tryz.prog 48=some true)∧(zN Tryz.prog 48=some [Value.string ⟨#[]⟩,Value.int IntKind.i64 0,Value.int IntKind.i64 0,Value.slice none 0 0])∧(qJ Tryz.prog 48=some ([Value.string ⟨#[]⟩,Value.int IntKind.i64 0,Value.int IntKind.i64 0,Value.slice none 0 0],[(0,1),(1,1),(2,1),(3,1)]))∧(zK Tryz.prog 48 0=some 0)∧(zX Tryz.prog 48 0=some (9,0))∧(zK Tryz.prog 48 1=some 1)∧(zX Tryz.prog 48 1=some (3,1))∧(zK Tryz.prog 48 2=some 2)∧(zX Tryz.prog 48 2=some (3,2))∧(zK Tryz.prog 48 3=some 3)∧(zX Tryz.prog 48 3=some (46,3))) ∧
  ((qy Tryz.prog 49=some 1)∧(qf Tryz.prog 49=some false)∧(qP Tryz.prog 49=some 4)∧(zY Tryz.prog 49=some (48,4,56))∧(zN Tryz.prog 49=some [Value.slice none 0 0])∧(isSl Tryz.prog 49=true)∧(Tryz.prog.underlying 49=some (TypeDesc.slice 48))) ∧
  ((qy Tryz.prog 50=some 1)∧(qf Tryz.prog 50=some false)∧(qP Tryz.prog 50=some 2)∧(zY Tryz.prog 50=some (207,2,24))∧(zN Tryz.prog 50=some [Value.slice none 0 0])∧(isSl Tryz.prog 50=true)∧(Tryz.prog.underlying 50=some (TypeDesc.slice 207))) ∧
  ((qy Tryz.prog 51=some 1)∧(qf Tryz.prog 51=some false)∧(qP Tryz.prog 51=some 1)∧(zY Tryz.prog 51=some (27,1,24))∧(zN Tryz.prog 51=some [Value.slice none 0 0])∧(isSl Tryz.prog 51=true)∧(Tryz.prog.underlying 51=some (TypeDesc.slice 27))) ∧
  ((qy Tryz.prog 53=some 4)∧(qf Tryz.prog 53=some true)∧(zN Tryz.prog 53=some [Value.slice none 0 0,Value.slice none 0 0,Value.slice none 0 0,Value.int IntKind.i64 0])∧(qJ Tryz.prog 53=some ([Value.slice none 0 0,Value.slice none 0 0,Value.slice none 0 0,Value.int IntKind.i64 0],[(0,1),(1,1),(2,1),(3,1)]))∧(zK Tryz.prog 53 0=some 0)∧(zX Tryz.prog 53 0=some (49,0))∧(zK Tryz.prog 53 1=some 1)∧(zX Tryz.prog 53 1=some (50,1))∧(zK Tryz.prog 53 2=some 2)∧(zX Tryz.prog 53 2=some (51,2))∧(zK Tryz.prog 53 3=some 3)∧(zX Tryz.prog 53 3=some (3,3))) ∧
  ((qy Tryz.prog 55=some 5)∧(qf Tryz.prog 55=some true)∧(zN Tryz.prog 55=some [Value.int IntKind.i64 0,Value.int IntKind.i64 0,Value.int IntKind.i64 0,Value.int IntKind.i64 0,Value.int IntKind.i64 0])∧(qJ Tryz.prog 55=some ([Value.int IntKind.i64 0,Value.int IntKind.i64 0,Value.int IntKind.i64 0,Value.int IntKind.i64 0,Value.int IntKind.i64 0],[(0,1),(1,1),(2,1),(3,1),(4,1)]))∧(eqTy Tryz.prog 55=some [(0,0),(1,0),(2,0),(3,0),(4,0)])∧(zK Tryz.prog 55 0=some 0)∧(zX Tryz.prog 55 0=some (3,0))∧(zK Tryz.prog 55 1=some 1)∧(zX Tryz.prog 55 1=some (3,1))∧(zK Tryz.prog 55 2=some 2)∧(zX Tryz.prog 55 2=some (3,2))∧(zK Tryz.prog 55 3=some 3)∧(zX Tryz.prog 55 3=some (3,3))∧(zK Tryz.prog 55 4=some 4)∧(zX Tryz.prog 55 4=some (3,4))) ∧
  ((qy Tryz.prog 57=some 2)∧(qf Tryz.prog 57=some true)∧(zN Tryz.prog 57=some [Value.slice none 0 0,Value.int IntKind.i64 0])∧(qJ Tryz.prog 57=some ([Value.slice none 0 0,Value.int IntKind.i64 0],[(0,1),(1,1)]))∧(zK Tryz.prog 57 0=some 0)∧(zX Tryz.prog 57 0=some (27,0))∧(zK Tryz.prog 57 1=some 1)∧(zX Tryz.prog 57 1=some (3,1))) ∧
  ((qy Tryz.prog 59=some 1)∧(qf Tryz.prog 59=some false)∧(qP Tryz.prog 59=some 1)∧(zY Tryz.prog 59=some (62,1,24))∧(zN Tryz.prog 59=some [Value.slice none 0 0])∧(isSl Tryz.prog 59=true)∧(Tryz.prog.underlying 59=some (TypeDesc.slice 62))) ∧
  ((qy Tryz.prog 62=some 1)∧(qf Tryz.prog 62=some false)∧(qP Tryz.prog 62=some 1)∧(zY Tryz.prog 62=some (4,1,1))∧(zN Tryz.prog 62=some [Value.slice none 0 0])∧(isSl Tryz.prog 62=true)∧(Tryz.prog.underlying 62=some (TypeDesc.slice 4))) ∧
  ((qy Tryz.prog 64=some 1)∧(qf Tryz.prog 64=some false)∧(z0G Tryz.prog 64=some (70,73,Value.agg { toList := [Value.int IntKind.i64 0,Value.int IntKind.i64 0,Value.int IntKind.i64 0] }))∧(zN Tryz.prog 64=some [Value.map none])∧(Tryz.prog.underlying 64=some (TypeDesc.map 70 73))) ∧
  ((qy Tryz.prog 67=some 3)∧(qf Tryz.prog 67=some true)∧(zN Tryz.prog 67=some [Value.int IntKind.i64 0,Value.int IntKind.i64 0,Value.int IntKind.i64 0])∧(qJ Tryz.prog 67=some ([Value.int IntKind.i64 0,Value.int IntKind.i64 0,Value.int IntKind.i64 0],[(0,1),(1,1),(2,1)]))∧(eqTy Tryz.prog 67=some [(0,0),(1,0),(2,0)])∧(zK Tryz.prog 67 0=some 0)∧(zX Tryz.prog 67 0=some (3,0))∧(zK Tryz.prog 67 1=some 1)∧(zX Tryz.prog 67 1=some (3,1))∧(zK Tryz.prog 67 2=some 2)∧(zX Tryz.prog 67 2=some (3,2))) ∧
  ((qy Tryz.prog 70=some 6)∧(qf Tryz.prog 70=some true)∧(zN Tryz.prog 70=some [Value.int IntKind.i64 0,Value.int IntKind.i64 0,Value.int IntKind.i64 0,Value.int IntKind.i64 0,Value.int IntKind.i64 0,Value.int IntKind.i64 0])∧(qJ Tryz.prog 70=some ([Value.int IntKind.i64 0,Value.int IntKind.i64 0,Value.int IntKind.i64 0,Value.int IntKind.i64 0,Value.int IntKind.i64 0,Value.int IntKind.i64 0],[(0,3),(3,3)]))∧(zK Tryz.prog 70 0=some 0)∧(zX Tryz.prog 70 0=some (67,0))∧(zK Tryz.prog 70 1=some 3)∧(zX Tryz.prog 70 1=some (67,3))) ∧
  ((qy Tryz.prog 73=some 3)∧(qf Tryz.prog 73=some true)∧(zN Tryz.prog 73=some [Value.int IntKind.i64 0,Value.int IntKind.i64 0,Value.int IntKind.i64 0])∧(qJ Tryz.prog 73=some ([Value.int IntKind.i64 0,Value.int IntKind.i64 0,Value.int IntKind.i64 0],[(0,2),(2,1)]))∧(zK Tryz.prog 73 0=some 0)∧(zX Tryz.prog 73 0=some (45,0))∧(zK Tryz.prog 73 1=some 2)∧(zX Tryz.prog 73 1=some (3,2))) ∧
  ((qy Tryz.prog 75=some 1)∧(qf Tryz.prog 75=some false)∧(qP Tryz.prog 75=some 6)∧(zY Tryz.prog 75=some (70,6,48))∧(zN Tryz.prog 75=some [Value.slice none 0 0])∧(isSl Tryz.prog 75=true)∧(Tryz.prog.underlying 75=some (TypeDesc.slice 70))) ∧
  ((qy Tryz.prog 78=some 1)∧(qf Tryz.prog 78=some false)∧(zN Tryz.prog 78=some [Value.nilFunc])) ∧
  ((qy Tryz.prog 81=some 1)∧(qf Tryz.prog 81=some false)∧(zN Tryz.prog 81=some [Value.nilFunc])) ∧
  ((qy Tryz.prog 83=some 1)∧(qf Tryz.prog 83=some false)∧(qP Tryz.prog 83=some 6)∧(zY Tryz.prog 83=some (85,6,48))∧(zN Tryz.prog 83=some [Value.slice none 0 0])∧(isSl Tryz.prog 83=true)∧(Tryz.prog.underlying 83=some (TypeDesc.slice 85))) ∧
  ((z6T Tryz.prog 85=some (6,1))∧(qy Tryz.prog 85=some 6)∧(qf Tryz.prog 85=some true)∧(elemA Tryz.prog 85=some (3,1,6))∧(zN Tryz.prog 85=some [Value.int IntKind.i64 0,Value.int IntKind.i64 0,Value.int IntKind.i64 0,Value.int IntKind.i64 0,Value.int IntKind.i64 0,Value.int IntKind.i64 0])∧(z6a Tryz.prog 85=some ([Value.int IntKind.i64 0,Value.int IntKind.i64 0,Value.int IntKind.i64 0,Value.int IntKind.i64 0,Value.int IntKind.i64 0,Value.int IntKind.i64 0],1,6))∧(eqTy Tryz.prog 85=some [(0,0),(1,0),(2,0),(3,0),(4,0),(5,0)])∧(qJ Tryz.prog 85=none)) ∧
  ((qy Tryz.prog 91=some 1)∧(qf Tryz.prog 91=some false)∧(ptTy Tryz.prog 91=some true)∧(zN Tryz.prog 91=some [Value.pointer none])) ∧
  ((qy Tryz.prog 92=some 1)∧(qf Tryz.prog 92=some false)∧(qP Tryz.prog 92=some 1)∧(zY Tryz.prog 92=some (5,1,1))∧(zN Tryz.prog 92=some [Value.slice none 0 0])∧(isSl Tryz.prog 92=true)∧(Tryz.prog.underlying 92=some (TypeDesc.slice 5))∧(z5r Tryz.prog 92=true)) ∧
  ((qy Tryz.prog 94=some 2)∧(qf Tryz.prog 94=some true)∧(zN Tryz.prog 94=some [Value.pointer none,Value.slice none 0 0])∧(qJ Tryz.prog 94=some ([Value.pointer none,Value.slice none 0 0],[(0,1),(1,1)]))∧(zK Tryz.prog 94 0=some 0)∧(zX Tryz.prog 94 0=some (91,0))∧(zK Tryz.prog 94 1=some 1)∧(zX Tryz.prog 94 1=some (92,1))) ∧
  ((qy Tryz.prog 95=some 1)∧(qf Tryz.prog 95=some false)∧(zN Tryz.prog 95=some [Value.nilFunc])) ∧
  ((qy Tryz.prog 100=some 1)∧(qf Tryz.prog 100=some false)∧(zN Tryz.prog 100=some [Value.nilFunc])) ∧
  ((qy Tryz.prog 101=some 1)∧(qf Tryz.prog 101=some false)∧(zN Tryz.prog 101=some [Value.nilFunc])) ∧
  ((qy Tryz.prog 104=some 1)∧(qf Tryz.prog 104=some false)∧(zN Tryz.prog 104=some [Value.nilFunc])) ∧
  ((qy Tryz.prog 109=some 1)∧(qf Tryz.prog 109=some false)∧(zN Tryz.prog 109=some [Value.nilFunc])) ∧
  ((qy Tryz.prog 110=some 1)∧(qf Tryz.prog 110=some false)∧(z0G Tryz.prog 110=some (136,3,Value.int IntKind.i64 0))∧(zN Tryz.prog 110=some [Value.map none])∧(Tryz.prog.underlying 110=some (TypeDesc.map 136 3))) ∧
  ((qy Tryz.prog 112=some 1)∧(qf Tryz.prog 112=some false)∧(zN Tryz.prog 112=some [Value.nilFunc])) ∧
  ((qy Tryz.prog 121=some 1)∧(qf Tryz.prog 121=some false)∧(zN Tryz.prog 121=some [Value.nilFunc])) ∧
  ((qy Tryz.prog 125=some 1)∧(qf Tryz.prog 125=some false)∧(qP Tryz.prog 125=some 5)∧(zY Tryz.prog 125=some (167,5,40))∧(zN Tryz.prog 125=some [Value.slice none 0 0])∧(isSl Tryz.prog 125=true)∧(Tryz.prog.underlying 125=some (TypeDesc.slice 167))) ∧
  ((qy Tryz.prog 126=some 1)∧(qf Tryz.prog 126=some false)∧(qP Tryz.prog 126=some 4)∧(zY Tryz.prog 126=some (172,4,32))∧(zN Tryz.prog 126=some [Value.slice none 0 0])∧(isSl Tryz.prog 126=true)∧(Tryz.prog.underlying 126=some (TypeDesc.slice 172))) ∧
  ((qy Tryz.prog 127=some 1)∧(qf Tryz.prog 127=some false)∧(qP Tryz.prog 127=some 2)∧(zY Tryz.prog 127=some (177,2,16))∧(zN Tryz.prog 127=some [Value.slice none 0 0])∧(isSl Tryz.prog 127=true)∧(Tryz.prog.underlying 127=some (TypeDesc.slice 177))) ∧
  ((qy Tryz.prog 128=some 1)∧(qf Tryz.prog 128=some false)∧(qP Tryz.prog 128=some 3)∧(zY Tryz.prog 128=some (164,3,24))∧(zN Tryz.prog 128=some [Value.slice none 0 0])∧(isSl Tryz.prog 128=true)∧(Tryz.prog.underlying 128=some (TypeDesc.slice 164))) ∧
  ((qy Tryz.prog 130=some 9)∧(qf Tryz.prog 130=some true)∧(zN Tryz.prog 130=some [Value.int IntKind.i64 0,Value.int IntKind.i64 0,Value.slice none 0 0,Value.slice none 0 0,Value.slice none 0 0,Value.slice none 0 0,Value.int IntKind.i64 0,Value.int IntKind.i64 0,Value.int IntKind.i64 0])∧(qJ Tryz.prog 130=some ([Value.int IntKind.i64 0,Value.int IntKind.i64 0,Value.slice none 0 0,Value.slice none 0 0,Value.slice none 0 0,Value.slice none 0 0,Value.int IntKind.i64 0,Value.int IntKind.i64 0,Value.int IntKind.i64 0],[(0,1),(1,1),(2,1),(3,1),(4,1),(5,1),(6,1),(7,1),(8,1)]))∧(zK Tryz.prog 130 0=some 0)∧(zX Tryz.prog 130 0=some (3,0))∧(zK Tryz.prog 130 1=some 1)∧(zX Tryz.prog 130 1=some (3,1))∧(zK Tryz.prog 130 2=some 2)∧(zX Tryz.prog 130 2=some (125,2))∧(zK Tryz.prog 130 3=some 3)∧(zX Tryz.prog 130 3=some (126,3))∧(zK Tryz.prog 130 4=some 4)∧(zX Tryz.prog 130 4=some (127,4))∧(zK Tryz.prog 130 5=some 5)∧(zX Tryz.prog 130 5=some (128,5))∧(zK Tryz.prog 130 6=some 6)∧(zX Tryz.prog 130 6=some (3,6))∧(zK Tryz.prog 130 7=some 7)∧(zX Tryz.prog 130 7=some (3,7))∧(zK Tryz.prog 130 8=some 8)∧(zX Tryz.prog 130 8=some (3,8))) ∧
  ((qy Tryz.prog 132=some 1)∧(qf Tryz.prog 132=some false)) ∧
  ((qy Tryz.prog 136=some 3)∧(qf Tryz.prog 136=some true)∧(zN Tryz.prog 136=some [Value.int IntKind.i64 0,Value.int IntKind.i64 0,Value.int IntKind.i64 0])∧(qJ Tryz.prog 136=some ([Value.int IntKind.i64 0,Value.int IntKind.i64 0,Value.int IntKind.i64 0],[(0,1),(1,2)]))∧(zK Tryz.prog 136 0=some 0)∧(zX Tryz.prog 136 0=some (3,0))∧(zK Tryz.prog 136 1=some 1)∧(zX Tryz.prog 136 1=some (25,1))) ∧
  ((qy Tryz.prog 137=some 1)∧(qf Tryz.prog 137=some false)∧(zN Tryz.prog 137=some [Value.nilFunc])) ∧
  ((qy Tryz.prog 141=some 1)∧(qf Tryz.prog 141=some false)∧(scTy Tryz.prog 141=some 0)∧(zN Tryz.prog 141=some [Value.int IntKind.u64 0])∧(Tryz.prog.underlying 141=some (TypeDesc.int IntKind.u64))) ∧
  ((qy Tryz.prog 158=some 1)∧(qf Tryz.prog 158=some false)∧(scTy Tryz.prog 158=some 0)∧(zN Tryz.prog 158=some [Value.int IntKind.u64 0])∧(Tryz.prog.underlying 158=some (TypeDesc.int IntKind.u64))) ∧
  ((z6T Tryz.prog 159=some (24,1))∧(qy Tryz.prog 159=some 24)∧(qf Tryz.prog 159=some true)∧(elemA Tryz.prog 159=some (5,1,24))∧(zN Tryz.prog 159=some [Value.int IntKind.u8 0,Value.int IntKind.u8 0,Value.int IntKind.u8 0,Value.int IntKind.u8 0,Value.int IntKind.u8 0,Value.int IntKind.u8 0,Value.int IntKind.u8 0,Value.int IntKind.u8 0,Value.int IntKind.u8 0,Value.int IntKind.u8 0,Value.int IntKind.u8 0,Value.int IntKind.u8 0,Value.int IntKind.u8 0,Value.int IntKind.u8 0,Value.int IntKind.u8 0,Value.int IntKind.u8 0,Value.int IntKind.u8 0,Value.int IntKind.u8 0,Value.int IntKind.u8 0,Value.int IntKind.u8 0,Value.int IntKind.u8 0,Value.int IntKind.u8 0,Value.int IntKind.u8 0,Value.int IntKind.u8 0])∧(z6a Tryz.prog 159=some ([Value.int IntKind.u8 0,Value.int IntKind.u8 0,Value.int IntKind.u8 0,Value.int IntKind.u8 0,Value.int IntKind.u8 0,Value.int IntKind.u8 0,Value.int IntKind.u8 0,Value.int IntKind.u8 0,Value.int IntKind.u8 0,Value.int IntKind.u8 0,Value.int IntKind.u8 0,Value.int IntKind.u8 0,Value.int IntKind.u8 0,Value.int IntKind.u8 0,Value.int IntKind.u8 0,Value.int IntKind.u8 0,Value.int IntKind.u8 0,Value.int IntKind.u8 0,Value.int IntKind.u8 0,Value.int IntKind.u8 0,Value.int IntKind.u8 0,Value.int IntKind.u8 0,Value.int IntKind.u8 0,Value.int IntKind.u8 0],1,24))∧(eqTy Tryz.prog 159=some [(0,0),(1,0),(2,0),(3,0),(4,0),(5,0),(6,0),(7,0),(8,0),(9,0),(10,0),(11,0),(12,0),(13,0),(14,0),(15,0),(16,0),(17,0),(18,0),(19,0),(20,0),(21,0),(22,0),(23,0)])∧(qJ Tryz.prog 159=none)) ∧
  ((qy Tryz.prog 164=some 3)∧(qf Tryz.prog 164=some true)∧(zN Tryz.prog 164=some [Value.int IntKind.i64 0,Value.int IntKind.i64 0,Value.int IntKind.i64 0])∧(qJ Tryz.prog 164=some ([Value.int IntKind.i64 0,Value.int IntKind.i64 0,Value.int IntKind.i64 0],[(0,1),(1,1),(2,1)]))∧(eqTy Tryz.prog 164=some [(0,0),(1,0),(2,0)])∧(zK Tryz.prog 164 0=some 0)∧(zX Tryz.prog 164 0=some (3,0))∧(zK Tryz.prog 164 1=some 1)∧(zX Tryz.prog 164 1=some (3,1))∧(zK Tryz.prog 164 2=some 2)∧(zX Tryz.prog 164 2=some (3,2))) ∧
  ((qy Tryz.prog 167=some 5)∧(qf Tryz.prog 167=some true)∧(zN Tryz.prog 167=some [Value.int IntKind.i64 0,Value.int IntKind.i64 0,Value.int IntKind.i64 0,Value.int IntKind.i64 0,Value.bool false])∧(qJ Tryz.prog 167=some ([Value.int IntKind.i64 0,Value.int IntKind.i64 0,Value.int IntKind.i64 0,Value.int IntKind.i64 0,Value.bool false],[(0,1),(1,1),(2,1),(3,1),(4,1)]))∧(eqTy Tryz.prog 167=some [(0,0),(1,0),(2,0),(3,0),(4,1)])∧(zK Tryz.prog 167 0=some 0)∧(zX Tryz.prog 167 0=some (3,0))∧(zK Tryz.prog 167 1=some 1)∧(zX Tryz.prog 167 1=some (3,1))∧(zK Tryz.prog 167 2=some 2)∧(zX Tryz.prog 167 2=some (3,2))∧(zK Tryz.prog 167 3=some 3)∧(zX Tryz.prog 167 3=some (3,3))∧(zK Tryz.prog 167 4=some 4)∧(zX Tryz.prog 167 4=some (4,4))) ∧
  ((qy Tryz.prog 172=some 4)∧(qf Tryz.prog 172=some true)∧(zN Tryz.prog 172=some [Value.int IntKind.i64 0,Value.int IntKind.i64 0,Value.bool false,Value.int IntKind.i64 0])∧(qJ Tryz.prog 172=some ([Value.int IntKind.i64 0,Value.int IntKind.i64 0,Value.bool false,Value.int IntKind.i64 0],[(0,1),(1,1),(2,1),(3,1)]))∧(eqTy Tryz.prog 172=some [(0,0),(1,0),(2,1),(3,0)])∧(zK Tryz.prog 172 0=some 0)∧(zX Tryz.prog 172 0=some (3,0))∧(zK Tryz.prog 172 1=some 1)∧(zX Tryz.prog 172 1=some (3,1))∧(zK Tryz.prog 172 2=some 2)∧(zX Tryz.prog 172 2=some (4,2))∧(zK Tryz.prog 172 3=some 3)∧(zX Tryz.prog 172 3=some (3,3))) ∧
  ((qy Tryz.prog 177=some 2)∧(qf Tryz.prog 177=some true)∧(zN Tryz.prog 177=some [Value.int IntKind.i64 0,Value.int IntKind.i64 0])∧(qJ Tryz.prog 177=some ([Value.int IntKind.i64 0,Value.int IntKind.i64 0],[(0,1),(1,1)]))∧(eqTy Tryz.prog 177=some [(0,0),(1,0)])∧(zK Tryz.prog 177 0=some 0)∧(zX Tryz.prog 177 0=some (3,0))∧(zK Tryz.prog 177 1=some 1)∧(zX Tryz.prog 177 1=some (3,1))) ∧
  ((qy Tryz.prog 188=some 1)∧(qf Tryz.prog 188=some false)∧(qP Tryz.prog 188=some 1)∧(zY Tryz.prog 188=some (9,1,16))∧(zN Tryz.prog 188=some [Value.slice none 0 0])∧(isSl Tryz.prog 188=true)∧(Tryz.prog.underlying 188=some (TypeDesc.slice 9))):=by repeat' (first|apply And.intro|kernel_rfl)
set_option linter.defProp false in
def az := And.intro @implies_true.{0} (And.intro @implies_true.{1} (And.intro amz tys))
end Go.Proofs.YtbkkginjfnjffaaGreatDoor
namespace Go.Proofs.YtbkkginjfnjffaaGreatDoor
open Go.RowKit Go.Sort Go.Maps
theorem zi.upN (s:ASt) (m:Nat) (hm:s.N≤m):zi s { s with N:=m }:=fun L loc ac w hr =>
 ⟨loc,⟨hr.defers,hr.size,fun t ht=>(hr.fr t ht).mono hm (Kp.refl _ _) (fun _ _ h=>h) (fun _ _ _ h=>h),⟨fun t o ho=>let ⟨h1,u,h2,h3⟩:=hr.hp.at' t o ho;⟨Nat.lt_of_lt_of_le h1 hm,u,h2,h3.mono hm (Kp.refl _ _) (fun _ _ h=>h) (fun _ _ _ h=>h) (fun _ _=>rfl)⟩,hr.hp.dead,hr.hp.apart,hr.hp.inL,hr.hp.notL⟩⟩,Ext.refl _ _⟩
theorem zi.obj (s:ASt) (t:Nat) (o o' : AO) (hlk:s.hp.lookup t=some o) (hle : ∀ N D loc w u,OR N D loc w u o→OR N D loc w u o'):zi s { s with hp:=zO s.hp t o' }:=fun L loc ac w hr=>by
 refine ⟨loc,⟨hr.defers,hr.size,hr.fr,⟨fun k ob hk=>?_,fun k hk=>?_,hr.hp.apart,hr.hp.inL,hr.hp.notL⟩⟩,Ext.refl _ _⟩
 ·change (zO s.hp t _).lookup k=some ob at hk
  rw [qL] at hk
  by_cases e1:k=t
  ·subst e1
   rw [if_pos rfl,hlk] at hk
   cases hk
   obtain ⟨h1,u,h2,h3⟩:=hr.hp.at' k _ hlk
   exact ⟨h1,u,h2,hle _ _ _ _ _ h3⟩
  ·rw [if_neg e1] at hk
   exact hr.hp.at' k ob hk
 ·change (zO s.hp t _).lookup k=none at hk
  rw [qL] at hk
  by_cases e1:k=t
  ·subst e1;rw [if_pos rfl,hlk] at hk;cases hk
  ·rw [if_neg e1] at hk;exact hr.hp.dead k hk
theorem zi.hpe (s:ASt) (hp' : Hp) (h : ∀ t,hp'.lookup t=s.hp.lookup t):zi s { s with hp:=hp' }:=fun L loc ac w hr =>
 ⟨loc,⟨hr.defers,hr.size,hr.fr,⟨fun k o hk=>hr.hp.at' k o (by rw [← h k];exact hk),fun k hk=>hr.hp.dead k (by rw [← h k];exact hk),hr.hp.apart,hr.hp.inL,hr.hp.notL⟩⟩,Ext.refl _ _⟩
theorem OR.toA {N:Nat} {D:Nat→Prop} {loc:Nat→Option Value} {w:World} {u:Value} {e:Nat} {cs:List PV} (h:OR N D loc w u (.row e 1 (cs.map fun x => [x]))):OR N D loc w u (.arow e (cs.map .p)):=by
 obtain ⟨flat,h1,h2,h3,h4⟩:=h
 refine ⟨flat,by rw [List.length_map] at h1 ⊢;exact h1,fun j x hx=>?_,h4⟩
 simp only [List.getElem?_map,Option.map_eq_some_iff] at hx
 obtain ⟨c,hc,rfl⟩:=hx
 obtain ⟨v,h5,h6⟩:=h3 j [c] 0 c (by rw [List.getElem?_map,hc];rfl) rfl
 exact ⟨v,by simpa using h5,.p _ _ h6⟩
theorem OR.ofA {N:Nat} {D:Nat→Prop} {loc:Nat→Option Value} {w:World} {u:Value} {e:Nat} {cs:List PV} (h:OR N D loc w u (.arow e (cs.map .p))):OR N D loc w u (.row e 1 (cs.map fun x => [x])):=by
 obtain ⟨flat,h1,h3,h4⟩:=h
 refine ⟨flat,by rw [List.length_map] at h1 ⊢;exact h1,fun r hr=>?_,fun k r j x hk hx=>?_,h4⟩
 ·obtain ⟨c,_,rfl⟩:=List.mem_map.1 hr;rfl
 ·simp only [List.getElem?_map,Option.map_eq_some_iff] at hk
  obtain ⟨c,hc,rfl⟩:=hk
  cases j with
  | succ j=>simp at hx
  | zero =>
   cases hx
   obtain ⟨v,h5,h6⟩:=h3 k (.p x) (by rw [List.getElem?_map,hc];rfl)
   exact ⟨v,by simpa using h5,by cases h6 with|p _ _ h=>exact h⟩
theorem OR.ofF {N:Nat} {D:Nat→Prop} {loc:Nat→Option Value} {w:World} {u:Value} {e n:Nat} {rows:List (List PV)} (hn : ∀ r ∈ rows,r.length=n) (h:OR N D loc w u (.afix e n rows.length (rows.flatten.map .p))):OR N D loc w u (.row e n rows):=by
 obtain ⟨flat,h1,h2,h3⟩:=h
 refine ⟨flat,h1,hn,fun k r j x hk hx=>?_,h3⟩
 have hf:(rows.flatten.map AV.p)[k*n+j]? = some (.p x):=by
  rw [List.getElem?_map]
  have:rows.flatten[k*n+j]? = some x:=by
   clear h1 h2 h3
   induction rows generalizing k with
   | nil=>simp at hk
   | cons r0 rs ih =>
    have hr0:=hn r0 (by simp)
    rw [List.flatten_cons]
    cases k with
    | zero =>
     cases hk
     rw [Nat.zero_mul,Nat.zero_add,List.getElem?_append_left (List.getElem?_eq_some_iff.1 hx).1]
     exact hx
    | succ k =>
     rw [List.getElem?_append_right (by rw [hr0,Nat.add_mul];omega),hr0,show (k+1)*n+j-n=k*n+j by rw [Nat.add_mul];omega]
     exact ih (fun r hr=>hn r (by simp [hr])) k (by simpa using hk)
  rw [this];rfl
 obtain ⟨v,h4,h5⟩:=h2 _ _ hf
 cases h5 with
 | p _ _ hp=>exact ⟨v,h4,hp⟩
theorem zi.toA (s:ASt) (t e:Nat) (cs:List PV) (hlk:s.hp.lookup t=some (.row e 1 (cs.map fun x => [x]))):zi s { s with hp:=zO s.hp t (.arow e (cs.map .p)) }:=zi.obj s t _ _ hlk fun _ _ _ _ _ h=>h.toA
theorem zi.ofF (s:ASt) (t e n:Nat) (rows:List (List PV)) (hn : ∀ r ∈ rows,r.length=n) (hlk:s.hp.lookup t=some (.afix e n rows.length (rows.flatten.map .p))):zi s { s with hp:=zO s.hp t (.row e n rows) }:=zi.obj s t _ _ hlk fun _ _ _ _ _ h=>h.ofF hn
theorem zi.ofA (s:ASt) (t e:Nat) (cs:List PV) (hlk:s.hp.lookup t=some (.arow e (cs.map .p))):zi s { s with hp:=zO s.hp t (.row e 1 (cs.map fun x => [x])) }:=zi.obj s t _ _ hlk fun _ _ _ _ _ h=>h.ofA
def mat (e n:Nat):Nat→List (List (List PV))→Hp
 | _,[] => []
 | b,r :: R=>(b,.row e n r) :: mat e n (b+1) R
theorem z3M (e n:Nat) : ∀ (R:List (List (List PV))) (b t:Nat),(mat e n b R).lookup t=if b≤t then (R[t-b]?).map (.row e n) else none
 | [],b,t=>by simp [mat]
 | r :: R,b,t=>by
  rw [mat]
  by_cases h:t=b
  ·subst h;rw [zB];simp
  ·rw [zo h,z3M e n R (b+1) t]
   by_cases h1:b≤t
   ·rw [if_pos (by omega),if_pos h1,show t-b=(t-(b+1))+1 by omega,List.getElem?_cons_succ]
   ·rw [if_neg (by omega),if_neg h1]
theorem mat_at (e n b i:Nat) (R:List (List (List PV))):(mat e n b R).lookup (i+b)=(R[i]?).map (.row e n):=by
 rw [z3M,if_pos (by omega),Nat.add_sub_cancel]
theorem mat_below (e n b t:Nat) (R:List (List (List PV))) (h:t<b):(mat e n b R).lookup t=none:=by
 rw [z3M,if_neg (by omega)]
theorem z5E (e n:Nat) : ∀ (R:List (List (List PV))) (b:Nat),∀ p ∈ mat e n b R,b≤p.1∧p.1<b+R.length ∧ ∃ r ∈ R,p.2 = .row e n r
 | [],b,p,h=>by cases h
 | r :: R,b,p,h=>by
  rcases List.mem_cons.1 h with h|h
  ·subst h;exact ⟨Nat.le_refl _,by simp,r,by simp,rfl⟩
  ·obtain ⟨h1,h2,q,h3,h4⟩:=z5E e n R (b+1) p h
   exact ⟨by omega,by simp;omega,q,by simp [h3],h4⟩
theorem z7j (e n:Nat) (F:AO→AO) (hF : ∀ r,F (.row e n r) = .row e n r) : ∀ (R:List (List (List PV))) (b:Nat),(mat e n b R).map (fun p=>(p.1,F p.2))=mat e n b R
 | [],b=>rfl
 | r :: R,b=>by rw [mat,List.map_cons,hF,z7j e n F hF R (b+1)]
theorem z2t (e n:Nat) (q:Nat→Bool) : ∀ (R:List (List (List PV))) (b:Nat),(∀ t,b≤t→t<b+R.length→q t=true)→(mat e n b R).filter (fun p=>q p.1)=mat e n b R
 | [],b,_=>rfl
 | r :: R,b,h=>by rw [mat,List.filter_cons,if_pos (h b (Nat.le_refl _) (by simp)),z2t e n q R (b+1) fun t h1 h2=>h t (by omega) (by simp at h2 ⊢;omega)]
theorem mat_set (e n:Nat) (r:List (List PV)) : ∀ (R:List (List (List PV))) (b i:Nat),zO (mat e n b R) (i+b) (.row e n r)=mat e n b (R.set i r)
 | [],b,i=>by simp [mat,zO]
 | q :: R,b,0=>by
  simp only [mat,zO,List.map_cons,Nat.zero_add,if_true,List.set_cons_zero]
  congr 1
  have:=z2t e n (fun _=>true) R (b+1) (fun _ _ _=>rfl)
  clear this
  have hk:=z5E e n R (b+1)
  rw [List.map_congr_left (g:=id) fun p hp=>by rw [if_neg (by have:=(hk p hp).1;omega)];rfl]
  simp
 | q :: R,b,i+1=>by
  rw [mat,List.set_cons_succ,mat,show i+1+b=i+(b+1) by omega,← mat_set e n r R (b+1) i]
  simp only [zO,List.map_cons]
  rw [if_neg (by omega)]
theorem mat_set0 (e n b t:Nat) (o:AO) (R:List (List (List PV))) (h:t<b):zO (mat e n b R) t o=mat e n b R:=by
 unfold zO
 have hk:=z5E e n R b
 rw [List.map_congr_left (g:=id) fun p hp=>by rw [if_neg (by have:=(hk p hp).1;omega)];rfl]
 simp
theorem z7Y (e n b i:Nat) (r:List (List PV)) (R:List (List (List PV))):List.map (fun p=>if p.1=i+b then (i+b,.row e n r) else p) (mat e n b R)=mat e n b (R.set i r):=mat_set e n r R b i
theorem mat_set0U (e n b t:Nat) (o:AO) (R:List (List (List PV))) (h:t<b):List.map (fun p=>if p.1=t then (t,o) else p) (mat e n b R)=mat e n b R:=mat_set0 e n b t o R h
theorem mat_sub (e n b t:Nat) (y:AV) (R:List (List (List PV))):List.map (fun p=>(p.1,AO.sub t y p.2)) (mat e n b R)=mat e n b R:=z7j e n (AO.sub t y) (fun _=>rfl) R b
theorem mat_ren (e n b t t' : Nat) (R:List (List (List PV))):List.map (fun p=>(p.1,AO.ren t t' p.2)) (mat e n b R)=mat e n b R:=z7j e n (AO.ren t t') (fun _=>rfl) R b
theorem mat_ne (e n b t:Nat) (R:List (List (List PV))) (h:t<b∨b+R.length≤t):List.filter (fun p=>p.1 != t) (mat e n b R)=mat e n b R :=
 z2t e n (fun k=>k != t) R b fun k h1 h2=>by simp;omega
theorem mat_ne2 (e n b t t' : Nat) (R:List (List (List PV))) (h:t<b∨b+R.length≤t) (h' : t' < b∨b+R.length≤t'):List.filter (fun p=>p.1 != t&&p.1 != t') (mat e n b R)=mat e n b R :=
 z2t e n (fun k=>k != t&&k != t') R b fun k h1 h2=>by simp;omega
end Go.Proofs.YtbkkginjfnjffaaGreatDoor
namespace Go.Proofs.YtbkkginjfnjffaaGreatDoor
open Go.RowKit Go.Sort
theorem Oper.z8t {P:Program} {o:Oper} {a:Act} {w:World} {K K' : Act→World→Prop} {Q Q' : Exit→Act→World→Prop} (h : ∀ a w,K a w→K' a w) (hq : ∀ e a w,e ≠ .normal→Q e a w→Q' e a w)
  (hh:o.wp P a w K Q):o.wp P a w K' Q':=by
 unfold Oper.wp at *
 generalize (execOp a.eval o).run P w=r at *
 cases r with
 | ok n w' =>
  cases n <;> simp only [Oper.upon] at hh ⊢ <;>
   first
    | exact h _ _ hh
    | exact Calls.mono hh (fun e w'' he=>by cases e <;> first|exact h _ _ he|exact hq _ _ _ (by simp) he|exact (let ⟨a',w',k⟩:=he;⟨a',w',hq _ _ _ (by simp) k⟩))
    | exact Rows.mono hh (fun _ _ he=>h _ _ he)
 | halt x w'=>cases x <;> simp only [Oper.upon] at hh ⊢ <;> first|exact hq _ _ _ (by simp) hh|exact hh|exact (let ⟨a',w',k⟩:=hh;⟨a',w',hq _ _ _ (by simp) k⟩)
def TA (P:Program) (ops:Array Oper) (K:ASt→Prop):Nat→Array Bool→ASt→Prop
 | 0,listed,s=>Region.ready .any ops listed = []∧K s
 | n+1,listed,s=>(Region.ready .any ops listed = []→K s) ∧ ∀ i ∈ Region.ready .any ops listed,∃ o,ops[i]? = some o∧o.guard=none∧zC o s∧WO P o s (TA P ops K n (listed.setIfInBounds i true))
theorem TA.sound {P:Program} {ops:Array Oper} {K:ASt→Prop} : ∀ (n:Nat) (listed:Array Bool) (s:ASt),TA P ops K n listed s → ∀ (Post:Exit→Act→World→Prop) (L:Lim) (loc:Nat→Option Value) (a:Act) (w:World),
  (∀ e a' w',z0r L loc w (NQ fun _=>K) e a' w' → Post e a' w')→Rel All L s loc a w→wpAny P .any ops Post n listed a w
 | 0,listed,s,h,Post,L,loc,a,w,hP,hr=>⟨h.1,hP _ _ _ (z0r.of ⟨rfl,h.2⟩ hr (Ext.refl _ _))⟩
 | n+1,listed,s,h,Post,L,loc,a,w,hP,hr=>⟨fun e=>hP _ _ _ (z0r.of ⟨rfl,h.1 e⟩ hr (Ext.refl _ _)),fun i hi=>by
  obtain ⟨o,ho,hg,hd,hW⟩:=h.2 i hi
  have h1:TL P ops (NQ fun _=>TA P ops K n (listed.setIfInBounds i true)) [o] s:=WO.sound (by simp [z3a,hg]) hd (WO.mono (fun s k=>TL.nil ⟨rfl,k⟩) hW)
  have h2:=h1 L loc a w hr
  unfold wpList at h2
  simp only [Region.wanted,hg,if_true] at h2
  unfold wpOp
  rw [ho]
  simp only [Region.wanted,hg,if_true]
  rcases h2 with h2|⟨_,a',w',s',loc',hx,_⟩
  ·refine .inl (Oper.z8t (fun a' w' k=>?_) (fun e a' w' hne k=>?_) h2)
   ·obtain ⟨s',loc',⟨_,hT⟩,⟨L',hr',hl⟩,hx⟩:=k
    exact TA.sound n _ s' hT Post L' loc' a' w' (fun e a2 w2 k=>hP _ _ _ (k.go hr' hl hx)) hr'
   ·obtain ⟨s',loc',⟨e1,_⟩,_⟩:=k
    exact absurd e1 hne
  ·cases hx.1⟩
theorem T.any {F:Fence} [FOk F] {P:Program} {Q:Exit→ASt→Prop} {s:ASt} {id:Nat} {l:List Oper} (hm:P.follows .mixedOrders=true) (hnd:z1r l=true) (h : ∀ K:ASt→Prop,(∀ s,Q .normal s→K s)→TA P l.toArray K l.toArray.size (Array.replicate l.toArray.size false) s):T F P (.region id l.toArray true) Q s:=fun L loc a w hr=>by
 refine wpIn_mono (wpIn_region_any hm (z3G NQ.out (z0i hnd) _ _ _ _ ?_)) fun _ _ _ k=>NQ.post k
 have hb:Blw w.heap.size w w.drew:=(Blw.refl _ w).drew
 have hr' : Rel All L s loc a w.drew:=⟨hr.defers,hr.size,fun t ht=>(hr.fr t ht).blw hb,hr.hp.below hb⟩
 exact TA.sound _ _ s (h (Q .normal) fun _ h=>h) _ L loc a w.drew (fun e a' w' ⟨s',loc',⟨h0,h1⟩,h2,h3⟩=>z0r.ext (.of_below hb) ⟨s',loc',⟨h0,h1⟩,h2,h3⟩) hr'
theorem TA.next {P:Program} {ops:Array Oper} {K:ASt→Prop} {n:Nat} {listed:Array Bool} {s:ASt} (r:List Nat) (hr:Region.ready .any ops listed=r) (hne:r ≠ []) (h : ∀ J:Nat→ASt→Prop,(∀ i s,TA P ops K n (listed.setIfInBounds i true) s→J i s) → ∀ i ∈ r,∃ o,ops[i]? = some o∧o.guard=none∧zC o s∧WO P o s (J i)):TA P ops K (n+1) listed s :=
 ⟨fun e=>absurd (hr.symm.trans e) hne,by rw [hr];exact h _ fun i s h=>h⟩
def allL:List Oper→Nat→(Nat→Oper→Prop)→Prop
 | [],_,_=>True
 | o :: r,k,f=>f k o∧allL r (k+1) f
theorem z4l : ∀ {l:List Oper} {k:Nat} {f:Nat→Oper→Prop},allL l k f → ∀ i o,l[i]? = some o→f (k+i) o
 | [],_,_,_,i,o,ho=>by simp at ho
 | p :: r,k,f,h,0,o,ho=>by cases ho;exact h.1
 | p :: r,k,f,h,i+1,o,ho=>by
  have:=z4l h.2 i o (by simpa using ho)
  rwa [show k+1+i=k+(i+1) by omega] at this
def rdB (ops:Array Oper) (listed:Array Bool) (i:Nat):Bool:=(Region.ready .any ops listed).contains i
theorem TA.z7k {P:Program} {l:List Oper} {K:ASt→Prop} {n:Nat} {listed:Array Bool} {s:ASt} (hne:(Region.ready .any l.toArray listed).isEmpty=false) (h : ∀ J:Nat→ASt→Prop,(∀ i s,TA P l.toArray K n (listed.setIfInBounds i true) s→J i s)→allL l 0 fun i o=>rdB l.toArray listed i=false∨(o.guard=none∧zC o s∧WO P o s (J i))):TA P l.toArray K (n+1) listed s :=
 ⟨fun e=>(by rw [e] at hne;cases hne),fun i hi=>by
  have hlt:i<l.toArray.size:=by
   have h0:=hi
   unfold Region.ready at h0
   exact List.mem_range.1 (List.mem_filter.1 h0).1
  have ho:l[i]? = some (l[i]'(by simpa using hlt)):=List.getElem?_eq_getElem _
  rcases z4l (h _ fun i s h=>h) i _ ho with h1|h1
  ·rw [Nat.zero_add] at h1
   unfold rdB at h1
   rw [List.contains_iff_mem.2 hi] at h1
   cases h1
  ·rw [Nat.zero_add] at h1
   exact ⟨_,by rw [List.getElem?_toArray];exact ho,h1.1,h1.2.1,h1.2.2⟩⟩
def depB (l:List Oper) (b:Nat→Bool) (i:Nat):Bool:=(List.range l.length).all fun j => !z1p l.toArray i j||b j
def zV (b:Nat→Bool) (i:Nat):Nat→Bool:=fun j=>j==i||b j
def ordB (l:List Oper):Bool:=(List.range l.length).all fun i=>match l[i]? with
 | some o=>o.after.all fun e => !Region.binds .any e||decide (e.on<i)
 | none=>true
theorem zm {l:List Oper} {b:Nat→Bool} {i j:Nat} (h:depB l b i=true) (hj:j<l.length) (he:z1p l.toArray i j=true):b j=true:=by
 have:=List.all_eq_true.1 h j (List.mem_range.2 hj)
 rw [he] at this
 simpa using this
theorem T.inv {F:Fence} [FOk F] {P:Program} {Q:Exit→ASt→Prop} {s:ASt} {id:Nat} {l:List Oper} (S:(Nat→Bool)→ASt) (hm:P.follows .mixedOrders=true) (hB:(z1r l&&ordB l)=true) (h0:zi s (S fun _=>false))
  (step : ∀ (b:Nat→Bool),(∀ j,j<l.length→b j=true→depB l b j=true)→allL l 0 fun i o=>b i=false→depB l b i=true→o.guard=none∧zC o (S b)∧WO P o (S b) fun s'=>zi s' (S (zV b i)))
  (h : ∀ K:ASt→Prop,(∀ s,Q .normal s→K s)→K (S fun j=>decide (j<l.length))):T F P (.region id l.toArray true) Q s:=fun L loc a w hr=>by
 obtain ⟨hnd,hord⟩:=Bool.and_eq_true_iff.1 hB
 refine wpIn_mono (wpIn_region_any hm (z3G NQ.out (z0i hnd) _ _ _ _ ?_)) fun _ _ _ k=>NQ.post k
 change wpAny P .any l.toArray (z0r L loc w (NQ Q)) _ _ a w.drew
 have hb:Blw w.heap.size w w.drew:=(Blw.refl _ w).drew
 have hr' : Rel All L s loc a w.drew:=⟨hr.defers,hr.size,fun t ht=>(hr.fr t ht).blw hb,hr.hp.below hb⟩
 have dep : ∀ {listed:Array Bool} {i:Nat},i ∈ Region.ready .any l.toArray listed→depB l (fun j=>listed.getD j false) i=true:=by
  intro listed i hi
  obtain ⟨_,o',ho',hall⟩:=mem_ready.1 hi
  refine List.all_eq_true.2 fun j _=>?_
  cases he:z1p l.toArray i j with
  | false=>rfl
  | true =>
   obtain ⟨o,e,h1,h2,h3,h4⟩:=z0P he
   rw [h1] at ho';cases ho'
   rw [Bool.not_true,Bool.false_or,← h4]
   exact hall e h2 h3
 have hset : ∀ {listed:Array Bool} {i:Nat},i<listed.size→(fun j=>(listed.setIfInBounds i true).getD j false)=zV (fun j=>listed.getD j false) i:=by
  intro listed i hi
  funext j
  unfold zV
  simp only [Array.getD_eq_getD_getElem?,Array.getElem?_setIfInBounds]
  by_cases e:j=i
  ·subst e;simp [hi]
  ·rw [if_neg (fun h=>e h.symm),show (j==i)=false by simpa using e,Bool.false_or]
 let I:Array Bool→Act→World→Prop:=fun listed a' w'=>listed.size=l.length∧(∀ j,j<l.length→listed.getD j false=true→depB l (fun j=>listed.getD j false) j=true) ∧ ∃ loc' L',Rel All L' (S fun j=>listed.getD j false) loc' a' w' ∧ LX L w.drew L' w' ∧ Ext loc w.drew loc' w'
 refine (fun start step done=>z4S I step done _ _ _ _ (by simp [left]) start) ?_ ?_ ?_
 ·obtain ⟨loc',h1,h2⟩:=h0 L loc a w.drew hr'
  refine ⟨by simp,fun j _ hj=>(by rw [getD_replicate_false] at hj;cases hj),loc',L,?_,.refl _ _ _,h2⟩
  have e:(fun j=>(Array.replicate l.toArray.size false).getD j false)=fun _=>false:=by funext j;exact getD_replicate_false ..
  rw [e]
  exact h1
 ·intro listed a' w' i ⟨hsz,hcl,loc',L',hrel,hlx,hext⟩ hrdy
  obtain ⟨hun,o,hio',_⟩:=mem_ready.1 hrdy
  have hio:l[i]? = some o:=by simpa using hio'
  have hil:i<l.length:=(List.getElem?_eq_some_iff.1 hio).1
  have hun' : listed.getD i false=false:=by
   have hlt:i<listed.size:=by omega
   simp [hlt] at hun ⊢
   exact hun
  have hst:=z4l (step (fun j=>listed.getD j false) hcl) i o hio
  rw [Nat.zero_add] at hst
  obtain ⟨hg,hd,hW⟩:=hst hun' (dep hrdy)
  have h1:TL P l.toArray (NQ fun _=>fun s'=>zi s' (S (zV (fun j=>listed.getD j false) i))) [o] (S fun j=>listed.getD j false):=WO.sound (by simp [z3a,hg]) hd (WO.mono (fun s k=>TL.nil ⟨rfl,k⟩) hW)
  have h2:=h1 L' loc' a' w' hrel
  unfold wpList at h2
  simp only [Region.wanted,hg,if_true] at h2
  unfold wpOp
  rw [hio']
  simp only [Region.wanted,hg,if_true]
  rcases h2 with h2|⟨_,a2,w2,s2,loc2,hx,_⟩
  ·refine .inl (Oper.z8t (fun a2 w2 k=>?_) (fun e a2 w2 hne k=>?_) h2)
   ·obtain ⟨s2,loc2,⟨_,hT⟩,⟨L2,hr2,hl2⟩,hx2⟩:=k
    obtain ⟨loc3,hr3,hx3⟩:=hT L2 loc2 a2 w2 hr2
    refine ⟨by simp [hsz],fun j hj hjl=>?_,loc3,L2,?_,hlx.trans hl2 hx2 hrel.hp.notL hext.kp.size,hext.trans (hx2.trans hx3)⟩
    ·rw [hset (by omega)]
     rw [show ((listed.setIfInBounds i true).getD j false)=zV (fun j=>listed.getD j false) i j by rw [← hset (by omega)]] at hjl
     have mono : ∀ k,depB l (fun j=>listed.getD j false) k=true→depB l (zV (fun j=>listed.getD j false) i) k=true:=fun k hk=>List.all_eq_true.2 fun m hm=>by
      have:=List.all_eq_true.1 hk m hm
      simp only [Bool.or_eq_true,zV] at this ⊢
      exact this.imp_right fun h => .inr h
     unfold zV at hjl
     rcases Bool.or_eq_true_iff.1 hjl with e|e
     ·rw [beq_iff_eq] at e;subst e;exact mono _ (dep hrdy)
     ·exact mono _ (hcl j hj e)
    ·rw [hset (by omega)];exact hr3
   ·obtain ⟨s2,loc2,⟨e1,_⟩,_⟩:=k
    exact absurd e1 hne
  ·cases hx.1
 ·intro listed a' w' ⟨hsz,hcl,loc',L',hrel,hlx,hext⟩ hrdy
  have hall : ∀ n,∀ j,j<n→j<l.length→listed.getD j false=true:=by
   intro n
   induction n with
   | zero=>intro j hj;omega
   | succ n ih =>
    intro j hj hjl
    rcases Nat.lt_or_ge j n with h1|h1
    ·exact ih j h1 hjl
    ·cases hjb:listed.getD j false with
     | true=>rfl
     | false =>
      have hjo:l[j]? = some l[j]:=List.getElem?_eq_getElem hjl
      have hmem:j ∈ Region.ready .any l.toArray listed:=mem_ready.2 ⟨by
       have hlt:j<listed.size:=by omega
       simp [hlt] at hjb ⊢
       exact hjb,l[j],by simp,fun e he hbd=>by
       have h2:=List.all_eq_true.1 hord j (List.mem_range.2 hjl)
       rw [hjo] at h2
       have h3:=Array.all_eq_true_iff_forall_mem.1 h2 e he
       rw [hbd] at h3
       simp at h3
       exact ih e.on (by omega) (by omega)⟩
      rw [hrdy] at hmem
      cases hmem
  have e:(fun j=>listed.getD j false)=fun j=>decide (j<l.length):=by
   funext j
   by_cases hj:j<l.length
   ·rw [hall (j+1) j (by omega) hj];simp [hj]
   ·have : ¬ j<listed.size:=by omega
    simp [hj,this]
  rw [e] at hrel
  exact z0r.ext (.of_below hb) ⟨_,loc',⟨rfl,h (Q .normal) fun _ h=>h⟩,⟨L',hrel,hlx⟩,hext⟩
theorem zi.slots {fr fr' : List (Nat × AV)} {hp:Hp} {n N:Nat} (hfr : ∀ p ∈ fr',AVle (ASt.get ⟨fr,hp,n,N⟩ p.1) p.2):zi ⟨fr,hp,n,N⟩ ⟨fr',hp,n,N⟩:=fun L loc a w hr =>
 ⟨loc,⟨hr.defers,hr.size,fun t ht=>by
  have h1:=hr.fr t ht
  simp only [ASt.get] at h1 ⊢
  cases h2:fr'.lookup t with
  | none=>exact .zy _
  | some x =>
   have hmem:(t,x) ∈ fr':=by
    clear hfr
    induction fr' with
    | nil=>cases h2
    | cons p r ih =>
     obtain ⟨k,y⟩:=p
     rw [List.lookup_cons] at h2
     split at h2
     ·rename_i e
      cases h2
      rw [beq_iff_eq] at e
      subst e
      exact List.mem_cons_self
     ·exact List.mem_cons_of_mem _ (ih h2)
   exact hfr _ hmem _ _ _ _ _ h1,hr.hp⟩,Ext.refl _ _⟩
end Go.Proofs.YtbkkginjfnjffaaGreatDoor
namespace Go.Proofs.YtbkkginjfnjffaaGreatDoor
open Go.RowKit Go.Sort Go.Maps
theorem zi.frm (s:ASt) (fr' : List (Nat × AV)) (hp' : Hp) (m:Nat) (he : ∀ t,hp'.lookup t=s.hp.lookup t) (hfr : ∀ p ∈ fr',AVle (s.get p.1) p.2) (hok:(fr'.all fun p=>p.2.okB m)=true) (hhp : ∀ t o,hp'.lookup t=some o→t<m∧o.okB m=true):zi s ⟨fr',hp',s.n,m⟩:=fun L loc ac w hr=>by
 refine ⟨loc,⟨hr.defers,hr.size,fun t _=>?_,⟨fun t o ht=>?_,fun t ht=>hr.hp.dead t (by rw [← he t];exact ht),hr.hp.apart,hr.hp.inL,hr.hp.notL⟩⟩,Ext.refl _ _⟩
 ·unfold ASt.get
  cases ht:fr'.lookup t with
  | none=>exact .zy _
  | some x =>
   have hm:=qQ ht
   exact (hfr _ hm _ _ _ _ _ (hr.fr t trivial)).low (List.all_eq_true.1 hok _ hm)
 ·obtain ⟨_,u,h3,h4⟩:=hr.hp.at' t o (by rw [← he t];exact ht)
  obtain ⟨h5,h6⟩:=hhp t o ht
  exact ⟨h5,u,h3,h4.low h6⟩
def owns:Nat→Nat→List AV
 | _,0 => []
 | b,n+1 => .own b :: owns (b+1) n
theorem z3r : ∀ (n b:Nat),(owns b n).length=n
 | 0,b=>rfl
 | n+1,b=>by rw [owns,List.length_cons,z3r n]
theorem z4e : ∀ (n b i:Nat),i<n→(owns b n)[i]? = some (.own (i+b))
 | 0,b,i,h=>by omega
 | n+1,b,0,h=>by simp [owns]
 | n+1,b,i+1,h=>by rw [owns,List.getElem?_cons_succ,z4e n (b+1) i (by omega),show i+(b+1)=i+1+b by omega]
theorem z8e : ∀ (n b:Nat),∀ x ∈ owns b n,∃ i,i<n∧x = .own (i+b)
 | 0,b,x,h=>by cases h
 | n+1,b,x,h=>by
  rcases List.mem_cons.1 h with h|h
  ·exact ⟨0,by omega,by rw [h,Nat.zero_add]⟩
  ·obtain ⟨i,h1,h2⟩:=z8e n (b+1) x h
   exact ⟨i+1,by omega,by rw [h2];congr 1;omega⟩
theorem z6D : ∀ (n b:Nat),owns b (n+1)=owns b n ++ [.own (n+b)]
 | 0,b=>by simp [owns]
 | n+1,b=>by
  rw [owns,z6D n (b+1),owns,List.cons_append,show n+(b+1)=n+1+b by omega]
theorem z8h (t:Nat) (y:AV) : ∀ (n b:Nat),(t<b∨b+n≤t)→(owns b n).map (AV.sub t y)=owns b n
 | 0,b,_=>rfl
 | n+1,b,h=>by
  rw [owns,List.map_cons,z8h t y n (b+1) (by omega)]
  congr 1
  simp only [AV.sub]
  rw [if_neg (by omega)]
theorem z8g (t t' : Nat) : ∀ (n b:Nat),(t<b∨b+n≤t)→(t' < b∨b+n≤t')→(owns b n).map (AV.ren t t')=owns b n
 | 0,b,_,_=>rfl
 | n+1,b,h,h'=>by
  rw [owns,List.map_cons,z8g t t' n (b+1) (by omega) (by omega),AV.zZ,if_neg (by omega),if_neg (by omega)]
theorem z8f (n b m:Nat) (h:b+n≤m):(owns b n).all (AV.okB m)=true:=by
 rw [List.all_eq_true]
 intro x hx
 obtain ⟨i,h1,rfl⟩:=z8e n b x hx
 simp [AV.okB];omega
theorem zi.frzRows (fr:List (Nat × AV)) (hfr : ∀ t y,(fr.map fun p=>(p.1,AV.sub (t+1) y p.2))=fr) (n N e0 e:Nat) : ∀ (R:List (List (List PV))) (b:Nat) (pre:List PV),0<b →
  zi ⟨fr,(0,.arow e0 (pre.map .p++owns b R.length)) :: mat e 1 b R,n,N⟩ ⟨fr,[(0,.arow e0 ((pre++R.map (PV.seq 1)).map .p))],n,N⟩
 | [],b,pre,hb=>by simp only [owns,mat,List.length_nil,List.append_nil,List.map_nil];exact zi.refl _
 | r :: R,b,pre,hb=>by
  refine (zi.frz _ b).trans ?_
  have hlk:List.lookup b ((0,AO.arow e0 (pre.map .p++owns b (r :: R).length)) :: mat e 1 b (r :: R))=some (.row e 1 r):=by
   rw [zo (by omega),mat,zB]
  have heq:ASt.frz ⟨fr,(0,.arow e0 (pre.map .p++owns b (r :: R).length)) :: mat e 1 b (r :: R),n,N⟩ b=⟨fr,(0,.arow e0 ((pre ++ [PV.seq 1 r]).map .p++owns (b+1) R.length)) :: mat e 1 (b+1) R,n,N⟩:=by
   unfold ASt.frz
   simp only [hlk,ASt.subst]
   obtain ⟨c,rfl⟩ : ∃ c,b=c+1:=⟨b-1,by omega⟩
   rw [hfr c]
   congr 1
   rw [List.map_cons,List.filter_cons,if_pos (by simp),mat_sub,mat,List.filter_cons,if_neg (by simp),mat_ne _ _ _ _ _ (.inl (by omega)),AO.z5Y]
   congr 3
   rw [List.length_cons,owns,List.map_append,List.map_cons,z8h _ _ _ _ (.inl (by omega)),List.map_append,List.append_assoc]
   congr 1
   ·rw [List.map_map];exact List.map_congr_left fun x _=>(by simp [AV.sub])
   ·simp [AV.sub]
  rw [heq]
  refine (zi.frzRows fr hfr n N e0 e R (b+1) (pre ++ [PV.seq 1 r]) (by omega)).trans (by rw [List.append_assoc];exact zi.refl _)
theorem zi.frzMat (fr:List (Nat × AV)) (hfr : ∀ t y,(fr.map fun p=>(p.1,AV.sub (t+1) y p.2))=fr) (n N e0 e b:Nat) (R:List (List (List PV))) (hb : 0<b) :
  zi ⟨fr,(0,.arow e0 (owns b R.length)) :: mat e 1 b R,n,N⟩ ⟨fr,[(0,.row e0 1 (R.map fun r => [.seq 1 r]))],n,N⟩:=by
 refine (zi.frzRows fr hfr n N e0 e R b [] hb).trans ?_
 refine (zi.ofA _ 0 e0 (R.map (PV.seq 1)) rfl).trans ?_
 simp only [zO,yl,if_true,List.map_map]
 exact zi.refl _
theorem AO.qD (t t' : Nat) (pin:Option Nat) (ty:TypeId) (cs:List AV):AO.ren t t' (.boxP pin ty cs) = .boxP pin ty (cs.map (AV.ren t t')):=rfl
theorem AO.qG (t t' : Nat) (e n:Nat) (rows:List (List PV)):AO.ren t t' (.row e n rows) = .row e n rows:=rfl
theorem AO.qE (t t' : Nat) (pin:Option Nat) (P:Program) (k n:Nat) (f:Lit→Option Value):AO.ren t t' (.map pin P k n f) = .map pin P k n f:=rfl
theorem AO.qF (t t' : Nat) (u:Value) (ob:Obj):AO.ren t t' (.raw u ob) = .raw u ob:=rfl
theorem AO.keep_box (n:Nat) (ks:List Nat) (pin:Option Nat) (ty:TypeId) (cs:List AV):AO.keep n ks (.boxP pin ty cs) = .boxP pin ty (cs.map (AV.keep n ks)):=rfl
theorem AO.keep_raw (n:Nat) (ks:List Nat) (u:Value) (ob:Obj):AO.keep n ks (.raw u ob) = .raw u ob:=rfl
theorem AO.z2p (b:Nat) (ty:TypeId) (cs:List AV):AO.handle (.boxP (some b) ty cs)=some (.pointer (some ⟨b,0,none⟩)):=rfl
theorem AO.ren_arow (t t' : Nat) (e:Nat) (cs:List AV):AO.ren t t' (.arow e cs) = .arow e (cs.map (AV.ren t t')):=rfl
theorem AO.z4f (t t' : Nat) (e m len:Nat) (cs:List AV):AO.ren t t' (.afix e m len cs) = .afix e m len (cs.map (AV.ren t t')):=rfl
abbrev nilV:Value := .slice none 0 0
theorem qN {α:Type} {f : α → α} {l:List α} (h : ∀ x ∈ l,f x=x):l.map f=l:=by
 rw [List.map_congr_left (g:=id) h,List.map_id]
theorem AV.z1g {t n:Nat} (y:AV) (h:n≤t) : ∀ x:AV,x.okB n=true→AV.sub t y x=x
 | .own k,hx=>by simp only [AV.okB,decide_eq_true_eq] at hx;simp only [AV.sub];rw [if_neg (by omega)]
 | .pre k m,hx=>by simp only [AV.okB,decide_eq_true_eq] at hx;simp only [AV.sub];rw [if_neg (by omega)]
 | .suf k j m,hx=>by simp only [AV.okB,decide_eq_true_eq] at hx;simp only [AV.sub];rw [if_neg (by omega)]
 | .ptr k m,hx=>by simp only [AV.okB,decide_eq_true_eq] at hx;simp only [AV.sub];rw [if_neg (by omega)]
 | .rptr k m i j,hx=>by simp only [AV.okB,decide_eq_true_eq] at hx;simp only [AV.sub];rw [if_neg (by omega)]
 | .fn f cs,hx=>by
  rw [AV.qm,List.all_eq_true] at hx
  rw [AV.z3s,qN fun c hc=>AV.z1g y h c (hx c hc)]
 | .agg cs,hx=>by
  rw [AV.zT,List.all_eq_true] at hx
  rw [AV.z1J,qN fun c hc=>AV.z1g y h c (hx c hc)]
 | .tup cs,hx=>by
  rw [AV.z5J,List.all_eq_true] at hx
  rw [AV.z1N,qN fun c hc=>AV.z1g y h c (hx c hc)]
 | .p x,_=>by simp only [AV.sub]
 | .elt r k,_=>by simp only [AV.sub]
 | .cap0,_=>by simp only [AV.sub]
 | .zy,_=>by simp only [AV.sub]
termination_by x=>SizeOf.sizeOf x
decreasing_by all_goals (have:=List.sizeOf_lt_of_mem hc;simp;omega)
theorem AV.z2F {t t' n:Nat} (h:n≤t) (h' : n≤t') : ∀ x:AV,x.okB n=true→AV.ren t t' x=x
 | .own k,hx=>by simp only [AV.okB,decide_eq_true_eq] at hx;rw [AV.zZ,if_neg (by omega),if_neg (by omega)]
 | .suf k j m,hx=>by simp only [AV.okB,decide_eq_true_eq] at hx;rw [AV.ren_suf,if_neg (by omega),if_neg (by omega)]
 | .pre k m,hx=>by simp only [AV.okB,decide_eq_true_eq] at hx;rw [AV.qw,if_neg (by omega),if_neg (by omega)]
 | .ptr k m,hx=>by simp only [AV.okB,decide_eq_true_eq] at hx;rw [AV.zG,if_neg (by omega),if_neg (by omega)]
 | .rptr k m i j,hx=>by simp only [AV.okB,decide_eq_true_eq] at hx;rw [AV.qd,if_neg (by omega),if_neg (by omega)]
 | .fn f cs,hx=>by
  rw [AV.qm,List.all_eq_true] at hx
  rw [AV.qO,qN fun c hc=>AV.z2F h h' c (hx c hc)]
 | .agg cs,hx=>by
  rw [AV.zT,List.all_eq_true] at hx
  rw [AV.zD,qN fun c hc=>AV.z2F h h' c (hx c hc)]
 | .tup cs,hx=>by
  rw [AV.z5J,List.all_eq_true] at hx
  rw [AV.qx,qN fun c hc=>AV.z2F h h' c (hx c hc)]
 | .p x,_=>by rw [AV.zW]
 | .elt r k,_=>by rw [AV.zF]
 | .cap0,_=>by rw [AV.qc]
 | .zy,_=>by rw [AV.zA]
termination_by x=>SizeOf.sizeOf x
decreasing_by all_goals (have:=List.sizeOf_lt_of_mem hc;simp;omega)
theorem AO.z1g {t n:Nat} (y:AV) (h:n≤t) {o:AO} (ho:o.okB n=true):o.sub t y=o:=by
 cases o with
 | boxP pin ty cs=>rw [AO.zL,List.all_eq_true] at ho;rw [AO.z2j,qN fun c hc=>AV.z1g y h c (ho c hc)]
 | row e m rows=>rfl
 | map pin P k m f=>rfl
 | raw u ob=>rfl
 | lrec l sp fr =>
  rw [AO.z0b,List.all_eq_true] at ho
  rw [AO.z1h,qN fun c hc=>by rw [AV.z1g y h c.2 (ho c hc)]]
 | amap P k m f q =>
  simp only [AO.okB,decide_eq_true_eq] at ho
  rw [AO.sub_amap]
  congr 1
  funext l
  cases hf:f l with
  | none=>rfl
  | some x=>rw [Option.map_some,AV.z1g y h x (ho l x hf)]
 | arow e cs=>rw [AO.z5I,List.all_eq_true] at ho;rw [AO.z5Y,qN fun c hc=>AV.z1g y h c (ho c hc)]
 | afix e m9 len cs=>rw [AO.z0M,List.all_eq_true] at ho;rw [AO.z8m,qN fun c hc=>AV.z1g y h c (ho c hc)]
theorem AO.z2F {t t' n:Nat} (h:n≤t) (h' : n≤t') {o:AO} (ho:o.okB n=true):o.ren t t' = o:=by
 cases o with
 | boxP pin ty cs=>rw [AO.zL,List.all_eq_true] at ho;simp only [AO.ren];rw [qN fun c hc=>AV.z2F h h' c (ho c hc)]
 | row e m rows=>rfl
 | map pin P k m f=>rfl
 | raw u ob=>rfl
 | lrec l sp fr =>
  rw [AO.z0b,List.all_eq_true] at ho
  simp only [AO.ren]
  rw [qN fun c hc=>by rw [AV.z2F h h' c.2 (ho c hc)]]
 | amap P k m f q =>
  simp only [AO.okB,decide_eq_true_eq] at ho
  simp only [AO.ren]
  congr 1
  funext l
  cases hf:f l with
  | none=>rfl
  | some x=>rw [Option.map_some,AV.z2F h h' x (ho l x hf)]
 | arow e cs=>rw [AO.z5I,List.all_eq_true] at ho;simp only [AO.ren];rw [qN fun c hc=>AV.z2F h h' c (ho c hc)]
 | afix e m9 len cs=>rw [AO.z0M,List.all_eq_true] at ho;simp only [AO.ren];rw [qN fun c hc=>AV.z2F h h' c (ho c hc)]
structure HpOk (n:Nat) (hp:Hp):Prop where
 ok : ∀ p ∈ hp,p.1<n∧p.2.okB n=true
 one : ∀ p ∈ hp,hp.lookup p.1=some p.2
namespace HpOk
variable {n:Nat} {hp:Hp} (h:HpOk n hp)
include h
theorem none {t:Nat} (ht:n≤t):hp.lookup t=Option.none:=by
 cases hl:hp.lookup t with
 | none=>rfl
 | some o=>have:=(h.ok _ (qQ hl)).1;simp only at this;omega
theorem at' {t:Nat} {o:AO} (hl:hp.lookup t=some o):t<n∧o.okB n=true:=h.ok _ (qQ hl)
theorem sub {t:Nat} (y:AV) (ht:n≤t):List.map (fun p=>(p.1,AO.sub t y p.2)) hp=hp:=qN fun p hp=>by rw [AO.z1g y ht (h.ok p hp).2]
theorem ren {t t' : Nat} (ht:n≤t) (ht' : n≤t'):List.map (fun p=>(p.1,AO.ren t t' p.2)) hp=hp:=qN fun p hp=>by rw [AO.z2F ht ht' (h.ok p hp).2]
theorem set {t:Nat} (o:AO) (ht:n≤t):List.map (fun p=>if p.1=t then (t,o) else p) hp=hp:=qN fun p hp=>by rw [if_neg];have:=(h.ok p hp).1;omega
theorem le:List.filter (fun p=>decide (n≤p.1)) hp = []:=List.filter_eq_nil_iff.2 fun p hp=>by have:=(h.ok p hp).1;simp;omega
theorem all:hp.all (fun p=>decide (p.1<n)&&p.2.okB n)=true:=List.all_eq_true.2 fun p hp=>by have:=h.ok p hp;simp [this.1,this.2]
end HpOk
theorem z7W (a b:Hp) (t:Nat):List.lookup t (a++b)=(a.lookup t).or (b.lookup t):=z2s a b t
theorem z6d.of {P:Program} {fr:List (Nat × AV)} {hp:Hp} {n N y:Nat} {xs:List AV} {d:Option Nat} {K:ASt→Prop} (m:Nat) (A H H' : Hp) (l:Nat) (sp:LSpec) (fr0:List (Nat × AV)) (hs:hp=A++H) (hA : ∀ p ∈ A,m≤p.1) (hAk:A.map (fun p=>(p.1,p.2.keep m [y]))=A) (hH:HpOk m H) (hyc:YldC P l m H xs fun hp' r=>hp' = H' ∧ r = .bool true)
  (hlk:H.lookup y=some (.lrec l sp fr0)) (hk:Kept H H' y) (hN:m≤N) (hxs:(xs.all (·.okB m))=true) (hK:K (ASt.put ⟨fr.map fun p=>(p.1,p.2.keep m [y]),H' ++ A,n,N⟩ d (.bool true))):z6d P ⟨fr,hp,n,N⟩ y xs d K:=by
 have hAn : ∀ {t:Nat},t<m→A.lookup t=none:=fun {t} ht=>by
  cases hl:A.lookup t with
  | none=>rfl
  | some o=>have:=hA _ (qQ hl);simp only at this;omega
 refine ⟨m,H,_,[y],l,sp,fr0,hyc,?_,⟨hN,fun p hp=>?_,fun p hp hlt=>?_⟩,hxs,?_⟩
 ·show List.lookup y hp=_
  rw [hs,z7W,hAn (hH.at' hlk).1,hlk];rfl
 ·obtain ⟨h1,h2⟩:=hH.ok p hp
  refine ⟨?_,h1,h2⟩
  show List.lookup p.1 _=_
  rw [hs,z7W,hAn h1,hH.one p hp];rfl
 ·have hp' : p ∈ A++H:=hs ▸ hp
  rcases List.mem_append.1 hp' with h1|h1
  ·have:=hA p h1;omega
  ·rw [hH.one p h1];rfl
 ·rintro hp' r ⟨rfl,rfl⟩
  refine ⟨fun t ht _=>?_,?_⟩
  ·rw [List.mem_singleton.1 ht];exact hk
  ·have e:ASt.qh ⟨fr,hp,n,N⟩ m [y] hp' = ⟨fr.map fun p=>(p.1,p.2.keep m [y]),hp' ++ A,n,N⟩:=by
    unfold ASt.qh
    simp only [hs,List.filter_append,hH.le,List.append_nil]
    rw [List.filter_eq_self.2 fun p hp=>by simpa using hA p hp,hAk]
   rw [e]
   exact hK
theorem zi.subs (s:ASt) (fr' : List (Nat × AV)) (hp' : Hp) (m:Nat) (he : ∀ t o,hp'.lookup t=some o→s.hp.lookup t=some o) (hfr : ∀ p ∈ fr',AVle (s.get p.1) p.2) (hok:(fr'.all fun p=>p.2.okB m)=true) (hhp : ∀ t o,hp'.lookup t=some o→t<m∧o.okB m=true):zi s ⟨fr',hp',s.n,m⟩:=fun L loc ac w hr=>by
 let loc' : Nat→Option Value:=fun t=>if (hp'.lookup t).isSome then loc t else none
 have hl : ∀ t u,loc' t=some u→loc t=some u:=fun t u h=>by
  simp only [loc'] at h
  split at h
  ·exact h
  ·cases h
 have hD : ∀ k,Dm L loc' k→Dm L loc k:=fun k hk=>hk.imp id fun ⟨t,u,h1,h2⟩=>⟨t,u,hl t u h1,h2⟩
 refine ⟨loc',⟨hr.defers,hr.size,fun t _=>?_,⟨fun t o ht=>?_,fun t ht=>?_,fun t t' u u' b h1 h2=>hr.hp.apart t t' u u' b (hl _ _ h1) (hl _ _ h2),hr.hp.inL,fun t u b h1=>hr.hp.notL t u b (hl _ _ h1)⟩⟩,⟨Kp.refl _ _,fun b hb => .inl (hb.imp id fun ⟨t,u,h1,h2⟩=>⟨t,u,hl t u h1,h2⟩)⟩⟩
 ·unfold ASt.get
  cases ht:fr'.lookup t with
  | none=>exact .zy _
  | some x =>
   have hm:=qQ ht
   have h1:=hfr _ hm _ _ _ _ _ (hr.fr t trivial)
   exact (h1.low (List.all_eq_true.1 hok _ hm)).mono (Nat.le_refl _) (Kp.refl _ _) (fun k _ h=>hD k h) (fun t u _ h=>hl t u h)
 ·obtain ⟨_,u,h3,h4⟩:=hr.hp.at' t o (he t o ht)
  obtain ⟨h5,h6⟩:=hhp t o ht
  refine ⟨h5,u,by simp [loc',ht,h3],(h4.low h6).mono (Nat.le_refl _) (Kp.refl _ _) (fun k _ h=>hD k h) (fun t u _ h=>hl t u h) (fun _ _=>rfl)⟩
 ·simp [loc',ht]
theorem lk_swap {A H:Hp} (hA : ∀ p ∈ A,2000000≤p.1) (hH:HpOk 2000000 H) (t:Nat):List.lookup t (A++H)=List.lookup t (H++A):=by
 rw [z7W,z7W]
 by_cases h:t<2000000
 ·have:A.lookup t=none:=by
   cases hl:A.lookup t with
   | none=>rfl
   | some o=>have:=hA _ (qQ hl);simp only at this;omega
  rw [this];simp
 ·rw [hH.none (by omega)];simp
theorem T.z5R {P:Program} {Q:Exit→ASt→Prop} {s:ASt} {g:Operand} {ps:Array Tmp} {assign body:Code} (gf:FuncId) (caps:List AV) (fr:List (Nat × AV)) (hg:s.ev g = .fn (.func gf) caps) (he:Ent P gf) (hfr : ∀ p ∈ fr,s.get p.1=p.2)
  (hc : ∀ l sp,sp.n=s.n→sp.ps=ps→sp.assign=assign→sp.body=body → ∃ n hp I ks,MemC P gf n hp (.own s.N :: caps) I∧Passes (s.add (.lrec l sp fr)) n hp∧((AV.own s.N :: caps).all (·.okB n))=true ∧ ∀ hp' r,I hp' r→(∀ t ∈ ks,t<n→Kept hp hp' t)∧(∃ fr',hp'.lookup s.N=some (.lrec l sp fr')) ∧
   ∀ ob,Q .normal { (s.add (.lrec l sp fr)).qh n ks hp' with hp:=zO ((s.add (.lrec l sp fr)).qh n ks hp').hp s.N (.raw (.func (.yield l) #[] #[]) ob) }):T Fence.wide P (.rangeFunc g ps assign body) Q s :=
 T.rangeF gf caps fr hg he hfr fun l fn D=>hc l ⟨s.n,fn,ps,assign,body,D⟩ rfl rfl rfl rfl
theorem HpOk.cons {n t:Nat} {o:AO} {hp:Hp} (h:HpOk n hp) (ht:t<n) (ho:o.okB n=true) (hn:hp.lookup t=Option.none):HpOk n ((t,o) :: hp) :=
 ⟨fun p hp=>by
  rcases List.mem_cons.1 hp with rfl|h1
  ·exact ⟨ht,ho⟩
  ·exact h.ok p h1,fun p hp=>by
  rcases List.mem_cons.1 hp with rfl|h1
  ·rw [zB]
  ·rw [zo,h.one p h1]
   intro e
   have:=h.one p h1
   rw [e,hn] at this
   cases this⟩
theorem FinM.ret {P:Program} {fn:Func} {N:Nat} {Q:Hp→AV→Prop} {r:AV} {s s' : ASt} {e:Exit} (he:e = .normal∨e = .ret) {rs:Array ResultVar} (hrs:fn.results=rs) (hw:zi s s') (hN:s'.N=N) (h:zI P s' rs.toList=some r) (hq:Q s'.hp r):FinM P fn N Q e s:=⟨he,s',hw,hN,r,by rw [hrs];exact h,hq⟩
end Go.Proofs.YtbkkginjfnjffaaGreatDoor
namespace Go.Proofs.YtbkkginjfnjffaaGreatDoor
open Go.RowKit Go.Sort
theorem drop_at {α:Type} {l:List α} {k:Nat} {x : α} (h:l[k]? = some x):l.drop k=x :: l.drop (k+1):=by
 obtain ⟨h1,h2⟩:=List.getElem?_eq_some_iff.1 h
 rw [List.drop_eq_getElem_cons h1,h2]
theorem qA {α:Type} {l:List α} {k:Nat} (h:k<l.length) : ∃ x,l[k]? = some x:=⟨_,List.getElem?_eq_getElem h⟩
structure Ev where
 g:Int
 kind:Int
 obj:Int
 off:Int
 k:Int
 n:Int
 fn:Int
 pc:Int
 st:Int
def evC (e:Ev):List PV := [.val (.int .i64 e.g),.val (.int .i64 e.kind),.val (.int .i64 e.obj),.val (.int .i64 e.off),.val (.int .i64 e.k),.val (.int .i64 e.n),.val (.int .i64 e.fn),.val (.int .i64 e.pc),.val (.int .i64 e.st)]
def evA (e:Ev):AV := .agg ((evC e).map .p)
def rowZ (ev:List Int):List (List PV):=ev.map fun x => [PV.val (.int .i64 x)]
theorem z0N (ev:List Int):(rowZ ev).length=ev.length:=by simp [rowZ]
theorem z0J {ev:List Int} {k:Nat} {x:Int} (h:ev[k]? = some x):(rowZ ev)[k]? = some [PV.val (.int .i64 x)]:=by simp [rowZ,h]
abbrev P2:=Int × Int
def rowP (l:List P2):List (List PV):=l.map fun x => [PV.val (.int .i64 x.1),PV.val (.int .i64 x.2)]
theorem z04 (l:List P2):(rowP l).length=l.length:=by simp [rowP]
theorem z0I {l:List P2} {k:Nat} {x:P2} (h:l[k]? = some x):(rowP l)[k]? = some [PV.val (.int .i64 x.1),PV.val (.int .i64 x.2)]:=by simp [rowP,h]
theorem rowP_snoc (l:List P2) (x:P2):rowP l ++ [[PV.val (.int .i64 x.1),PV.val (.int .i64 x.2)]]=rowP (l ++ [x]):=by simp [rowP]
def dpA (ss:List P2) (ps:List Int):AV := .agg [.p (.seq 2 (rowP ss)),.p (.seq 1 (rowZ ps))]
def trA (l:List Ev) (ss:List P2) (ps:List Int):AV := .agg [.p (.seq 9 (l.map evC)),.p (.seq 2 (rowP ss)),.p (.seq 1 (rowZ ps))]
def p2A (r:P2):AV := .agg [.int r.1,.int r.2]
theorem lkc (c:Bool) (t k:Nat) (o:AO) (r:Hp):List.lookup t ((bif c then [(k,o)] else [])++r)=if t=k then (bif c then some o else List.lookup t r) else List.lookup t r:=by
 cases c
 ·simp
 ·rw [cond_true,List.cons_append,List.nil_append,zq];rfl
def inA (e:Ev):AV := .agg [.int e.fn,.int e.pc,.int e.kind]
theorem of_ok (e:Ev):zt Tryz.prog 15 [evA e] (inA e):=by
 simp only [evA,evC,yl,inA]
 refine zt.of Tryz.func15 rfl 10 rfl (by decide) (by simp [AV.okB]) ?_
 repeat' (first|refine T.zk fun K hK=>?_|apply T.block|(refine T.reg (by kernel_rfl) fun K' hK'=>?_;simp only [bz];(with_reducible repeat' (first|(apply WL.fin;apply hK';clear hK' K')|(refine WL.step fun K2 hK2=>?_;simp only [simprocAttr,implies_true,amz,zf,tys];repeat' (first|(apply hK2;clear hK2 K2)|apply And.intro|intro hb)))))|apply T.skip|apply T.exit|refine T.zh rfl ?_|refine T.zg rfl ?_|refine T.cond rfl (fun hc=>?_) (fun hc=>?_)|apply T.ret|simp only [ze,z8,reduceIte,Nat.reduceEqDiff]|((repeat ((fail_if_success apply hK);clear hK K));apply hK;clear hK K))
 all_goals (refine zP.ret (.inr rfl) Tryz.results15 ?_;simp only [zI,zu,zw,simprocAttr,implies_true,amz,zf,tys,])
def z2g (s:P2):Bool:=decide (0≤s.1)&&decide (0≤s.2)
theorem z6E (s:P2):zt Tryz.prog 57 [p2A s] (.bool (z2g s)):=by
 simp only [p2A]
 refine zt.of Tryz.func57 rfl 11 rfl (by decide) (by simp [AV.okB]) ?_
 repeat' (first|refine T.zk fun K hK=>?_|apply T.block|(refine T.reg (by kernel_rfl) fun K' hK'=>?_;simp only [bz];(with_reducible repeat' (first|(apply WL.fin;apply hK';clear hK' K')|(refine WL.step fun K2 hK2=>?_;simp only [simprocAttr,implies_true,amz,zf,tys];repeat' (first|(apply hK2;clear hK2 K2)|apply And.intro|intro hb)))))|apply T.skip|apply T.exit|refine T.zh rfl ?_|refine T.zg rfl ?_|refine T.cond rfl (fun hc=>?_) (fun hc=>?_)|apply T.ret|simp only [ze,z8,reduceIte,Nat.reduceEqDiff]|((repeat ((fail_if_success apply hK);clear hK K));apply hK;clear hK K))
 all_goals (refine zP.ret (.inr rfl) Tryz.results57 ?_;simp only [zI,zu,zw,simprocAttr,implies_true,amz,zf,tys,];first|(simp [z2g, *];done)|(simp_all [z2g];done)|(simp_all [z2g];omega))
theorem z5A (x:Int):zt Tryz.prog 59 [.int x] (.bool false):=by
 refine zt.of Tryz.func59 rfl 6 rfl (by decide) (by simp [AV.okB]) ?_
 repeat' (first|refine T.zk fun K hK=>?_|apply T.block|(refine T.reg (by kernel_rfl) fun K' hK'=>?_;simp only [bz];(with_reducible repeat' (first|(apply WL.fin;apply hK';clear hK' K')|(refine WL.step fun K2 hK2=>?_;simp only [simprocAttr,implies_true,amz,zf,tys];repeat' (first|(apply hK2;clear hK2 K2)|apply And.intro|intro hb)))))|apply T.skip|apply T.exit|refine T.zh rfl ?_|refine T.zg rfl ?_|refine T.cond rfl (fun hc=>?_) (fun hc=>?_)|apply T.ret|simp only [ze,z8,reduceIte,Nat.reduceEqDiff]|((repeat ((fail_if_success apply hK);clear hK K));apply hK;clear hK K))
 all_goals (refine zP.ret (.inr rfl) Tryz.results59 ?_;simp only [zI,zu,zw,simprocAttr,implies_true,amz,zf,tys,];first|(simp [bne_self_eq_false, *];done)|(simp_all [bne_self_eq_false];done)|(simp_all [bne_self_eq_false];omega))
def cmpI (x y:Int):Int:=if x<y then -1 else if y<x then 1 else 0
theorem z8z (x y:Int):zt Tryz.prog 41 [.int x,.int y] (.int (cmpI x y)):=by
 by_cases h1:x<y
 ·have hd:decide (x<y)=true:=by simpa using h1
  have he:cmpI x y = -1:=by simp [cmpI,h1]
  rw [he]
  refine zt.of Tryz.func41 rfl 20 rfl (by decide) (by simp [AV.okB]) ?_
  repeat' (first|refine T.zk fun K hK=>?_|apply T.block|(refine T.reg (by kernel_rfl) fun K' hK'=>?_;simp only [bz];(repeat' (first|(with_reducible refine WL.fin ?_;apply hK';clear hK' K')|((with_reducible refine WL.step fun K2 hK2=>?_);simp only [simprocAttr,implies_true,amz,zf,tys,hd];(repeat' (first|with_reducible (first|(apply hK2;clear hK2 K2)|apply And.intro|intro hb)|((with_reducible first|apply zl|apply zn);case h=>exact CallV.plain (Ent.of Tryz.func59 (by kernel_rfl) rfl) (z5A _) (by simp [AV.okB]))))))))|apply T.skip|apply T.exit|refine T.zh rfl ?_|refine T.zg rfl ?_|refine T.cond rfl (fun hc=>?_) (fun hc=>?_)|apply T.ret|simp only [ze,z8,reduceIte,Nat.reduceEqDiff]|((repeat ((fail_if_success apply hK);clear hK K));apply hK;clear hK K))
  all_goals (refine zP.ret (.inr rfl) Tryz.results41 ?_;simp only [zI,zu,zw,simprocAttr,implies_true,amz,zf,tys,])
 ·have hd:decide (x<y)=false:=by simpa using h1
  by_cases h2:y<x
  ·have hd2:decide (y<x)=true:=by simpa using h2
   have he:cmpI x y=1:=by simp [cmpI,h1,h2]
   rw [he]
   refine zt.of Tryz.func41 rfl 20 rfl (by decide) (by simp [AV.okB]) ?_
   repeat' (first|refine T.zk fun K hK=>?_|apply T.block|(refine T.reg (by kernel_rfl) fun K' hK'=>?_;simp only [bz];(repeat' (first|(with_reducible refine WL.fin ?_;apply hK';clear hK' K')|((with_reducible refine WL.step fun K2 hK2=>?_);simp only [simprocAttr,implies_true,amz,zf,tys,hd,hd2];(repeat' (first|with_reducible (first|(apply hK2;clear hK2 K2)|apply And.intro|intro hb)|((with_reducible first|apply zl|apply zn);case h=>exact CallV.plain (Ent.of Tryz.func59 (by kernel_rfl) rfl) (z5A _) (by simp [AV.okB]))))))))|apply T.skip|apply T.exit|refine T.zh rfl ?_|refine T.zg rfl ?_|refine T.cond rfl (fun hc=>?_) (fun hc=>?_)|apply T.ret|simp only [ze,z8,reduceIte,Nat.reduceEqDiff]|((repeat ((fail_if_success apply hK);clear hK K));apply hK;clear hK K))
   all_goals (refine zP.ret (.inr rfl) Tryz.results41 ?_;simp only [zI,zu,zw,simprocAttr,implies_true,amz,zf,tys,])
  ·have hd2:decide (y<x)=false:=by simpa using h2
   have he:cmpI x y=0:=by simp [cmpI,h1,h2]
   rw [he]
   refine zt.of Tryz.func41 rfl 20 rfl (by decide) (by simp [AV.okB]) ?_
   repeat' (first|refine T.zk fun K hK=>?_|apply T.block|(refine T.reg (by kernel_rfl) fun K' hK'=>?_;simp only [bz];(repeat' (first|(with_reducible refine WL.fin ?_;apply hK';clear hK' K')|((with_reducible refine WL.step fun K2 hK2=>?_);simp only [simprocAttr,implies_true,amz,zf,tys,hd,hd2];(repeat' (first|with_reducible (first|(apply hK2;clear hK2 K2)|apply And.intro|intro hb)|((with_reducible first|apply zl|apply zn);case h=>exact CallV.plain (Ent.of Tryz.func59 (by kernel_rfl) rfl) (z5A _) (by simp [AV.okB]))))))))|apply T.skip|apply T.exit|refine T.zh rfl ?_|refine T.zg rfl ?_|refine T.cond rfl (fun hc=>?_) (fun hc=>?_)|apply T.ret|simp only [ze,z8,reduceIte,Nat.reduceEqDiff]|((repeat ((fail_if_success apply hK);clear hK K));apply hK;clear hK K))
   all_goals (refine zP.ret (.inr rfl) Tryz.results41 ?_;simp only [zI,zu,zw,simprocAttr,implies_true,amz,zf,tys,])
theorem zS (a b:Nat) (c:Bool) (x y:AV):AV.ren a b (bif c then x else y)=bif c then AV.ren a b x else AV.ren a b y:=by cases c <;> rfl
theorem zU (n:Nat) (c:Bool) (x y:AV):AV.okB n (bif c then x else y)=bif c then AV.okB n x else AV.okB n y:=by cases c <;> rfl
def orL:List Int→Int
 | [] => 0
 | x :: r=>if x=0 then orL r else x
theorem or_ok (l:List Int) (hl:l.length≤1000000):zt Tryz.prog 20 [.p (.seq 1 (rowZ l))] (.int (orL l)):=by
 have hlm:=z0N l
 refine zt.of Tryz.func20 rfl 18 rfl (by decide) (by simp [AV.okB]) ?_
 repeat' (first|refine T.zk fun K hK=>?_|apply T.block|(refine T.reg (by kernel_rfl) fun K' hK'=>?_;simp only [bz];(with_reducible repeat' (first|(apply WL.fin;apply hK';clear hK' K')|(refine WL.step fun K2 hK2=>?_;simp only [simprocAttr,implies_true,amz,zf,tys,hlm];repeat' (first|(apply hK2;clear hK2 K2)|apply And.intro|intro hb)))))|apply T.skip|apply T.exit|refine T.zh rfl ?_|refine T.zg rfl ?_|refine T.cond rfl (fun hc=>?_) (fun hc=>?_)|apply T.ret|simp only [ze,z8,reduceIte,Nat.reduceEqDiff]|((repeat ((fail_if_success apply hK);clear hK K));apply hK;clear hK K))
 refine T.z02 (fun k:Nat=>⟨[(3,.int 0),(6,.p (.seq 1 (rowZ l))),(7,.int l.length),(8,.int k)],[],18,0⟩) (fun k=>k≤l.length∧orL l=orL (l.drop k)) (fun k=>l.length-k) 0 ⟨Nat.zero_le _,rfl⟩ (by refine zi.of' rfl ?_;simp only [wks,reduceIte,Nat.reduceEqDiff,ASt.okB,AV.okB,Nat.reduceLT,implies_true,Int.natCast_zero]) ?_
 rintro k ⟨hk,hn⟩ KL hKL
 by_cases hlt:k<l.length
 ·have hd:decide ((k:Int)<(l.length:Int))=true:=by simpa using hlt
  obtain ⟨x,hx⟩:=qA hlt
  have m1:=z0J hx
  rw [drop_at hx,orL] at hn
  by_cases h0:x=0
  ·subst h0
   rw [if_pos rfl] at hn
   repeat' (first|refine T.zk fun K hK=>?_|apply T.block|(refine T.reg (by kernel_rfl) fun K' hK'=>?_;simp only [bz];(with_reducible repeat' (first|(apply WL.fin;apply hK';clear hK' K')|(refine WL.step fun K2 hK2=>?_;simp only [simprocAttr,implies_true,amz,zf,tys,hlm,hd,m1,bne_self_eq_false];repeat' (first|(apply hK2;clear hK2 K2)|apply And.intro|intro hb)))))|apply T.skip|apply T.exit|refine T.zh rfl ?_|refine T.zg rfl ?_|refine T.cond rfl (fun hc=>?_) (fun hc=>?_)|apply T.ret|simp only [ze,z8,reduceIte,Nat.reduceEqDiff]|((repeat ((fail_if_success apply hK);clear hK K));apply hK;clear hK K))
   refine hKL _ (k+1) (by refine zi.of' rfl ?_;simp only [wks,reduceIte,Nat.reduceEqDiff,ASt.okB,AV.okB,Nat.reduceLT,implies_true,zx (show k<1152921504606846976 by omega)]) ⟨hlt,hn⟩ (by omega)
  ·have hb:(x != 0)=true:=by simpa using h0
   rw [if_neg h0] at hn
   rw [hn]
   repeat' (first|refine T.zk fun K hK=>?_|apply T.block|(refine T.reg (by kernel_rfl) fun K' hK'=>?_;simp only [bz];(with_reducible repeat' (first|(apply WL.fin;apply hK';clear hK' K')|(refine WL.step fun K2 hK2=>?_;simp only [simprocAttr,implies_true,amz,zf,tys,hlm,hd,m1,hb];repeat' (first|(apply hK2;clear hK2 K2)|apply And.intro|intro hb)))))|apply T.skip|apply T.exit|refine T.zh rfl ?_|refine T.zg rfl ?_|refine T.cond rfl (fun hc=>?_) (fun hc=>?_)|apply T.ret|simp only [ze,z8,reduceIte,Nat.reduceEqDiff]|((repeat ((fail_if_success apply hK);clear hK K));apply hK;clear hK K))
   all_goals (refine zP.ret (.inr rfl) Tryz.results20 ?_;simp only [zI,zu,zw,simprocAttr,implies_true,amz,zf,tys,])
 ·have hd:decide ((k:Int)<(l.length:Int))=false:=by simpa using hlt
  rw [List.drop_eq_nil_of_le (by omega)] at hn
  repeat' (first|refine T.zk fun K hK=>?_|apply T.block|(refine T.reg (by kernel_rfl) fun K' hK'=>?_;simp only [bz];(with_reducible repeat' (first|(apply WL.fin;apply hK';clear hK' K')|(refine WL.step fun K2 hK2=>?_;simp only [simprocAttr,implies_true,amz,zf,tys,hlm,hd];repeat' (first|(apply hK2;clear hK2 K2)|apply And.intro|intro hb)))))|apply T.skip|apply T.exit|refine T.zh rfl ?_|refine T.zg rfl ?_|refine T.cond rfl (fun hc=>?_) (fun hc=>?_)|apply T.ret|simp only [ze,z8,reduceIte,Nat.reduceEqDiff]|((repeat ((fail_if_success apply hK);clear hK K));apply hK;clear hK K))
  all_goals (refine zP.ret (.inr rfl) Tryz.results20 ?_;simp only [zI,zu,zw,simprocAttr,implies_true,amz,zf,tys,hn,orL])
def cmp3 (a b:Ev):Int:=orL [cmpI a.fn b.fn,cmpI a.pc b.pc,cmpI a.kind b.kind]
theorem z6Y (a b:Ev):zt Tryz.prog 16 [inA a,inA b] (.int (cmp3 a b)):=by
 have ho:=or_ok [cmpI a.fn b.fn,cmpI a.pc b.pc,cmpI a.kind b.kind] (by simp)
 have hm3:(3≤maxLen)=True:=eq_true (by unfold maxLen;omega)
 simp only [inA,rowZ,yl] at ho ⊢
 refine zt.of Tryz.func16 rfl 22 rfl (by decide) (by simp [AV.okB]) ?_
 repeat' (first|refine T.zk fun K hK=>?_|apply T.block|(refine T.reg (by kernel_rfl) fun K' hK'=>?_;simp only [bz];(with_reducible repeat' (first|(apply WL.fin;apply hK';clear hK' K')|(refine WL.step fun K2 hK2=>?_;simp only [simprocAttr,implies_true,amz,zf,tys];repeat' (first|(apply hK2;clear hK2 K2)|apply And.intro|intro hb)))))|apply T.skip|apply T.exit|refine T.zh rfl ?_|refine T.zg rfl ?_|refine T.cond rfl (fun hc=>?_) (fun hc=>?_)|apply T.ret|simp only [ze,z8,reduceIte,Nat.reduceEqDiff]|((repeat ((fail_if_success apply hK);clear hK K));apply hK;clear hK K))
 refine T.drw 18 (by kernel_rfl) (by kernel_rfl) fun K' hK'=>?_;simp only [yl];(repeat' (first|(with_reducible refine WL.fin ?_;apply hK';clear hK' K')|(with_reducible refine WD.fin ?_)|((with_reducible first|refine WL.step fun K2 hK2=>?_|refine WD.step fun K2 hK2=>?_);simp only [simprocAttr,implies_true,amz,zf,tys,hm3];(repeat' (first|with_reducible (first|(apply hK2;clear hK2 K2)|apply And.intro|intro hb)|((with_reducible first|apply zl|apply zn);case h=>exact CallV.plain (Ent.of Tryz.func41 (by kernel_rfl) rfl) (z8z _ _) (by simp [AV.okB]))|((with_reducible first|apply zl|apply zn);case h=>exact CallV.plain (Ent.of Tryz.func20 (by kernel_rfl) rfl) (ho) (by simp [AV.okB])))))));all_goals ((try simp only [ze,z8,reduceIte,Nat.reduceEqDiff]);(try ((repeat ((fail_if_success apply hK);clear hK K));apply hK;clear hK K)))
 all_goals repeat' (first|refine T.zk fun K hK=>?_|apply T.block|(refine T.reg (by kernel_rfl) fun K' hK'=>?_;simp only [bz];(with_reducible repeat' (first|(apply WL.fin;apply hK';clear hK' K')|(refine WL.step fun K2 hK2=>?_;simp only [simprocAttr,implies_true,amz,zf,tys];repeat' (first|(apply hK2;clear hK2 K2)|apply And.intro|intro hb)))))|apply T.skip|apply T.exit|refine T.zh rfl ?_|refine T.zg rfl ?_|refine T.cond rfl (fun hc=>?_) (fun hc=>?_)|apply T.ret|simp only [ze,z8,reduceIte,Nat.reduceEqDiff]|((repeat ((fail_if_success apply hK);clear hK K));apply hK;clear hK K))
 all_goals (refine zP.ret (.inr rfl) Tryz.results16 ?_;simp only [zI,zu,zw,simprocAttr,implies_true,amz,zf,tys,cmp3])
def lexB:List Int→List Int→Bool
 | a :: x,b :: y=>decide (a<b)||(a==b&&lexB x y)
 | _,_=>false
theorem z3y : ∀ x:List Int,lexB x x=false
 | []=>rfl
 | a :: x=>by simp [lexB,z3y x]
theorem z2e : ∀ {x y z:List Int},lexB x y=true→lexB y z=true→lexB x z=true
 | a :: x,b :: y,c :: z,h1,h2=>by
  simp only [lexB,Bool.or_eq_true,decide_eq_true_eq,Bool.and_eq_true,beq_iff_eq] at h1 h2 ⊢
  rcases h1 with h1|⟨rfl,h1⟩
  ·rcases h2 with h2|⟨rfl,h2⟩
   ·exact .inl (by omega)
   ·exact .inl h1
  ·rcases h2 with h2|⟨rfl,h2⟩
   ·exact .inl h2
   ·exact .inr ⟨rfl,z2e h1 h2⟩
 | [],_,_,h1,_=>by simp [lexB] at h1
 | _ :: _,[],_,h1,_=>by simp [lexB] at h1
 | _ :: _,_ :: _,[],_,h2=>by simp [lexB] at h2
theorem z3n : ∀ {x y:List Int},x.length=y.length→x ≠ y→lexB x y=true∨lexB y x=true
 | [],[],_,h=>absurd rfl h
 | a :: x,b :: y,hl,h=>by
  simp only [lexB,Bool.or_eq_true,decide_eq_true_eq,Bool.and_eq_true,beq_iff_eq]
  by_cases e:a=b
  ·subst e
   rcases z3n (x:=x) (y:=y) (by simpa using hl) (fun e=>h (by rw [e])) with h1|h1
   ·exact .inl (.inr ⟨rfl,h1⟩)
   ·exact .inr (.inr ⟨rfl,h1⟩)
  ·rcases Int.lt_or_lt_of_ne e with h1|h1
   ·exact .inl (.inl h1)
   ·exact .inr (.inl h1)
 | [],_ :: _,hl,_=>by simp at hl
 | _ :: _,[],hl,_=>by simp at hl
abbrev LxS (l:List (List Int)):Prop:=l.Pairwise fun x y=>lexB x y=true
theorem lxs_eq : ∀ {a b:List (List Int)},LxS a→LxS b→(∀ k,k ∈ a↔k ∈ b)→a=b
 | [],[],_,_,_=>rfl
 | [],y :: b,_,_,h=>absurd ((h y).2 (List.mem_cons_self)) (by simp)
 | x :: a,[],_,_,h=>absurd ((h x).1 (List.mem_cons_self)) (by simp)
 | x :: a,y :: b,ha,hb,h=>by
  obtain ⟨ha1,ha2⟩:=List.pairwise_cons.1 ha
  obtain ⟨hb1,hb2⟩:=List.pairwise_cons.1 hb
  have e:x=y:=by
   rcases List.mem_cons.1 ((h x).1 List.mem_cons_self) with e|h1
   ·exact e
   ·rcases List.mem_cons.1 ((h y).2 List.mem_cons_self) with e|h2
    ·exact e.symm
    ·have:=z2e (ha1 y h2) (hb1 x h1)
     rw [z3y] at this
     cases this
  subst e
  rw [lxs_eq ha2 hb2 fun k=>?_]
  constructor
  ·intro hk
   rcases List.mem_cons.1 ((h k).1 (List.mem_cons_of_mem _ hk)) with e|h1
   ·subst e
    have:=ha1 k hk
    rw [z3y] at this
    cases this
   ·exact h1
  ·intro hk
   rcases List.mem_cons.1 ((h k).2 (List.mem_cons_of_mem _ hk)) with e|h1
   ·subst e
    have:=hb1 k hk
    rw [z3y] at this
    cases this
   ·exact h1
def insK (k:List Int):Bool→List (List Int)→List (List Int)
 | d,[]=>if d=true then [] else [k]
 | d,x :: r=>if (!d&&lexB k x)=true then k :: x :: insK k true r else x :: insK k (d||x==k) r
theorem z1q (k:List Int) : ∀ r:List (List Int),insK k true r=r
 | []=>rfl
 | x :: r=>by simp [insK,z1q k r]
theorem z3X (k:List Int) : ∀ (r:List (List Int)) (z:List Int),z ∈ insK k false r↔z=k∨z ∈ r
 | [],z=>by simp [insK]
 | x :: r,z=>by
  unfold insK
  by_cases h1:lexB k x=true
  ·rw [if_pos (by simpa using h1),z1q];simp
  ·rw [if_neg (by simpa using h1)]
   by_cases h2:x=k
   ·subst h2
    simp [z1q]
   ·have h3:(x==k)=false:=by simpa using h2
    rw [h3,Bool.false_or,List.mem_cons,z3X k r z,List.mem_cons]
    constructor
    ·rintro (h|h|h)
     ·exact .inr (.inl h)
     ·exact .inl h
     ·exact .inr (.inr h)
    ·rintro (h|h|h)
     ·exact .inr (.inl h)
     ·exact .inl h
     ·exact .inr (.inr h)
theorem z7R (k:List Int) (n:Nat) (hk:k.length=n) : ∀ r:List (List Int),LxS r→(∀ x ∈ r,x.length=n)→LxS (insK k false r)
 | [],_,_=>by simp [insK]
 | x :: r,hs,hl=>by
  obtain ⟨h1,h2⟩:=List.pairwise_cons.1 hs
  unfold insK
  by_cases h:lexB k x=true
  ·rw [if_pos (by simpa using h),z1q]
   exact List.pairwise_cons.2 ⟨fun y hy=>(List.mem_cons.1 hy).elim (fun e=>e ▸ h) fun hy=>z2e h (h1 y hy),hs⟩
  ·rw [if_neg (by simpa using h)]
   by_cases e:x=k
   ·subst e
    simp only [beq_self_eq_true,Bool.or_true,z1q]
    exact hs
   ·have h3:(x==k)=false:=by simpa using e
    rw [h3,Bool.false_or]
    refine List.pairwise_cons.2 ⟨fun y hy=>?_,z7R k n hk r h2 fun z hz=>hl z (List.mem_cons_of_mem _ hz)⟩
    rcases (z3X k r y).1 hy with rfl|hy
    ·exact (z3n ((hl x List.mem_cons_self).trans hk.symm) e).resolve_right h
    ·exact h1 y hy
def z0Y (ks:List (List Int)):List (List Int):=ks.foldl (fun acc k=>insK k false acc) []
theorem z6o (ks:List (List Int)) (k:List Int):z0Y (ks ++ [k])=insK k false (z0Y ks):=by simp [z0Y]
theorem z5x (n:Nat) : ∀ (ks acc:List (List Int)),LxS acc→(∀ x ∈ acc,x.length=n)→(∀ k ∈ ks,k.length=n) →
  LxS (ks.foldl (fun acc k=>insK k false acc) acc) ∧ ∀ z,z ∈ ks.foldl (fun acc k=>insK k false acc) acc↔z ∈ acc∨z ∈ ks
 | [],acc,h1,_,_=>⟨h1,fun z=>by simp⟩
 | k :: ks,acc,h1,h2,h3=>by
  have hk:=h3 k List.mem_cons_self
  obtain ⟨a,b⟩:=z5x n ks (insK k false acc) (z7R k n hk acc h1 h2) (fun x hx=>((z3X k acc x).1 hx).elim (fun e=>e ▸ hk) (h2 x)) fun z hz=>h3 z (List.mem_cons_of_mem _ hz)
  refine ⟨a,fun z=>?_⟩
  rw [List.foldl_cons,b,z3X,List.mem_cons]
  constructor
  ·rintro ((h|h)|h)
   ·exact .inr (.inl h)
   ·exact .inl h
   ·exact .inr (.inr h)
  ·rintro (h|h|h)
   ·exact .inl (.inr h)
   ·exact .inl (.inl h)
   ·exact .inr h
theorem z6p {n:Nat} {ks:List (List Int)} (h : ∀ k ∈ ks,k.length=n):LxS (z0Y ks):=(z5x n ks [] List.Pairwise.nil (fun x hx=>by cases hx) h).1
theorem z0A {n:Nat} {ks:List (List Int)} (h : ∀ k ∈ ks,k.length=n) (z:List Int):z ∈ z0Y ks↔z ∈ ks:=by
 have:=(z5x n ks [] List.Pairwise.nil (fun x hx=>by cases hx) h).2 z
 unfold z0Y
 simpa using this
theorem z8k {α:Type} {P:List α→Prop} (h0:P []) (hs : ∀ l a,P l→P (l ++ [a])) (l:List α):P l:=by
 rw [← List.reverse_reverse l]
 induction l.reverse with
 | nil=>exact h0
 | cons a r ih=>rw [List.reverse_cons];exact hs _ _ ih
abbrev Rc:=Int × Int
def earB (a b:Rc):Bool:=decide (a.2<b.2)||(a.2==b.2&&decide (a.1<b.1))
def upF (o:Option (Rc × Int)) (r:Rc):Rc × Int:=match o with
 | none=>(r,1)
 | some (f,c)=>(if earB r f=true then r else f,c+1)
def fndF (key:Rc→List Int) (k:List Int) (rs:List Rc):Option (Rc × Int):=rs.foldl (fun o r=>if key r=k then some (upF o r) else o) none
def cntF (key:Rc→List Int) (k:List Int) (rs:List Rc):Nat:=(rs.filter fun r=>decide (key r=k)).length
theorem ear_irr (a:Rc):earB a a=false:=by simp [earB]
theorem ear_trans {a b c:Rc} (h1:earB a b=true) (h2:earB b c=true):earB a c=true:=by
 simp only [earB,Bool.or_eq_true,decide_eq_true_eq,Bool.and_eq_true,beq_iff_eq] at h1 h2 ⊢
 omega
structure Fnd (key:Rc→List Int) (k:List Int) (rs:List Rc) (o:Option (Rc × Int)):Prop where
 none:o=none → ∀ r ∈ rs,key r ≠ k
 some : ∀ f c,o=some (f,c)→f ∈ rs∧key f=k∧(∀ r ∈ rs,key r=k→earB r f=false)∧c=(cntF key k rs:Int)
theorem fnd_ok (key:Rc→List Int) (k:List Int) (rs:List Rc):Fnd key k rs (fndF key k rs):=by
 refine z8k (P:=fun rs=>Fnd key k rs (fndF key k rs)) ⟨fun _ r hr=>(by cases hr),fun f c h=>by cases h⟩ (fun rs r ih=>?_) rs
 ·show Fnd key k (rs ++ [r]) (fndF key k (rs ++ [r]))
  have e1:fndF key k (rs ++ [r])=if key r=k then some (upF (fndF key k rs) r) else fndF key k rs:=by simp [fndF]
  have e2:cntF key k (rs ++ [r])=cntF key k rs+(if key r=k then 1 else 0):=by
   simp only [cntF,List.filter_append,List.length_append]
   congr 1
   by_cases h:key r=k <;> simp [h]
  rw [e1]
  by_cases hk:key r=k
  ·rw [if_pos hk]
   refine ⟨fun h=>(by cases h),fun f c h=>?_⟩
   rw [e2,if_pos hk]
   cases ho:fndF key k rs with
   | none =>
    rw [ho] at ih h
    cases h
    have h0:cntF key k rs=0:=by
     rw [cntF,List.length_eq_zero_iff,List.filter_eq_nil_iff]
     intro x hx
     simpa using ih.none rfl x hx
    refine ⟨by simp,hk,fun x hx hxk=>?_,by rw [h0];rfl⟩
    rcases List.mem_append.1 hx with hx|hx
    ·exact absurd hxk (ih.none rfl x hx)
    ·rw [List.mem_singleton.1 hx];exact ear_irr r
   | some p =>
    obtain ⟨f0,c0⟩:=p
    rw [ho] at ih h
    obtain ⟨i1,i2,i3,i4⟩:=ih.some f0 c0 rfl
    simp only [upF,Option.some.injEq,Prod.mk.injEq] at h
    obtain ⟨rfl,rfl⟩:=h
    cases he:earB r f0 with
    | true =>
     rw [if_pos rfl]
     refine ⟨by simp,hk,fun x hx hxk=>?_,by rw [i4];push_cast;rfl⟩
     rcases List.mem_append.1 hx with hx|hx
     ·cases h2:earB x r with
      | false=>rfl
      | true =>
       have:=ear_trans h2 he
       rw [i3 x hx hxk] at this
       cases this
     ·rw [List.mem_singleton.1 hx];exact ear_irr r
    | false =>
     rw [if_neg (by simp)]
     refine ⟨by simp [i1],i2,fun x hx hxk=>?_,by rw [i4];push_cast;rfl⟩
     rcases List.mem_append.1 hx with hx|hx
     ·exact i3 x hx hxk
     ·rw [List.mem_singleton.1 hx];exact he
  ·rw [if_neg hk]
   refine ⟨fun h x hx=>?_,fun f c h=>?_⟩
   ·rcases List.mem_append.1 hx with hx|hx
    ·exact ih.none h x hx
    ·rw [List.mem_singleton.1 hx];exact hk
   ·obtain ⟨i1,i2,i3,i4⟩:=ih.some f c h
    refine ⟨by simp [i1],i2,fun x hx hxk=>?_,by rw [i4,e2,if_neg hk];rfl⟩
    rcases List.mem_append.1 hx with hx|hx
    ·exact i3 x hx hxk
    ·rw [List.mem_singleton.1 hx] at hxk;exact absurd hxk hk
def qU (a b:Ev):Bool:=if a.fn ≠ b.fn then decide (b.fn<a.fn) else if a.pc ≠ b.pc then decide (b.pc<a.pc) else decide (b.kind<a.kind)
theorem z8E (a b:Ev):zt Tryz.prog 64 [evA a,evA b] (.bool (qU a b)):=by
 simp only [evA,evC,yl]
 by_cases h1:a.fn=b.fn
 ·have g1:(a.fn != b.fn)=false:=by simpa using h1
  by_cases h2:a.pc=b.pc
  ·have g2:(a.pc != b.pc)=false:=by simpa using h2
   have he:qU a b=decide (b.kind<a.kind):=by simp [qU,h1,h2]
   refine zt.of Tryz.func64 rfl 30 rfl (by decide) (by simp [AV.okB]) ?_
   repeat' (first|refine T.zk fun K hK=>?_|apply T.block|(refine T.reg (by kernel_rfl) fun K' hK'=>?_;simp only [bz];(with_reducible repeat' (first|(apply WL.fin;apply hK';clear hK' K')|(refine WL.step fun K2 hK2=>?_;simp only [simprocAttr,implies_true,amz,zf,tys,g1,g2];repeat' (first|(apply hK2;clear hK2 K2)|apply And.intro|intro hb)))))|apply T.skip|apply T.exit|refine T.zh rfl ?_|refine T.zg rfl ?_|refine T.cond rfl (fun hc=>?_) (fun hc=>?_)|apply T.ret|simp only [ze,z8,reduceIte,Nat.reduceEqDiff]|((repeat ((fail_if_success apply hK);clear hK K));apply hK;clear hK K))
   all_goals (refine zP.ret (.inr rfl) Tryz.results64 ?_;simp only [zI,zu,zw,simprocAttr,implies_true,amz,zf,tys,he])
  ·have g2:(a.pc != b.pc)=true:=by simpa using h2
   have he:qU a b=decide (b.pc<a.pc):=by simp [qU,h1,h2]
   refine zt.of Tryz.func64 rfl 30 rfl (by decide) (by simp [AV.okB]) ?_
   repeat' (first|refine T.zk fun K hK=>?_|apply T.block|(refine T.reg (by kernel_rfl) fun K' hK'=>?_;simp only [bz];(with_reducible repeat' (first|(apply WL.fin;apply hK';clear hK' K')|(refine WL.step fun K2 hK2=>?_;simp only [simprocAttr,implies_true,amz,zf,tys,g1,g2];repeat' (first|(apply hK2;clear hK2 K2)|apply And.intro|intro hb)))))|apply T.skip|apply T.exit|refine T.zh rfl ?_|refine T.zg rfl ?_|refine T.cond rfl (fun hc=>?_) (fun hc=>?_)|apply T.ret|simp only [ze,z8,reduceIte,Nat.reduceEqDiff]|((repeat ((fail_if_success apply hK);clear hK K));apply hK;clear hK K))
   all_goals (refine zP.ret (.inr rfl) Tryz.results64 ?_;simp only [zI,zu,zw,simprocAttr,implies_true,amz,zf,tys,he])
 ·have g1:(a.fn != b.fn)=true:=by simpa using h1
  have he:qU a b=decide (b.fn<a.fn):=by simp [qU,h1]
  refine zt.of Tryz.func64 rfl 30 rfl (by decide) (by simp [AV.okB]) ?_
  repeat' (first|refine T.zk fun K hK=>?_|apply T.block|(refine T.reg (by kernel_rfl) fun K' hK'=>?_;simp only [bz];(with_reducible repeat' (first|(apply WL.fin;apply hK';clear hK' K')|(refine WL.step fun K2 hK2=>?_;simp only [simprocAttr,implies_true,amz,zf,tys,g1];repeat' (first|(apply hK2;clear hK2 K2)|apply And.intro|intro hb)))))|apply T.skip|apply T.exit|refine T.zh rfl ?_|refine T.zg rfl ?_|refine T.cond rfl (fun hc=>?_) (fun hc=>?_)|apply T.ret|simp only [ze,z8,reduceIte,Nat.reduceEqDiff]|((repeat ((fail_if_success apply hK);clear hK K));apply hK;clear hK K))
  all_goals (refine zP.ret (.inr rfl) Tryz.results64 ?_;simp only [zI,zu,zw,simprocAttr,implies_true,amz,zf,tys,he])
def ordI (r:P2) (e f:Ev):P2:=if qU e f=true then (r.2,r.1) else r
structure Rac (l:List Ev) (r:P2) (e f:Ev):Prop where
 i0 : 0≤r.1
 ij:r.1<r.2
 j:r.2<l.length
 e:l[r.1.toNat]? = some e
 f:l[r.2.toNat]? = some f
theorem z0W {l:List Ev} {k:Nat} {e:Ev} (h:l[k]? = some e):(l.map evC)[k]? = some [.val (.int .i64 e.g),.val (.int .i64 e.kind),.val (.int .i64 e.obj),.val (.int .i64 e.off),.val (.int .i64 e.k),.val (.int .i64 e.n),.val (.int .i64 e.fn),.val (.int .i64 e.pc),.val (.int .i64 e.st)]:=by
 rw [List.getElem?_map,h];rfl
theorem z5h (l:List Ev) (ss:List P2) (ps:List Int) (r:P2) (e f:Ev) (h:Rac l r e f):zt Tryz.prog 46 [trA l ss ps,p2A r] (.tup [.int (ordI r e f).1,.int (ordI r e f).2]):=by
 have hlm:(l.map evC).length=l.length:=by simp
 have hi0:(0≤r.1)=True:=eq_true h.i0
 have hj0:(0≤r.2)=True:=eq_true (by have:=h.i0;have:=h.ij;omega)
 have mi:=z0W h.e
 have mj:=z0W h.f
 have hg:=z8E e f
 simp only [trA,p2A,evA,evC,yl] at hg ⊢
 cases hb:qU e f with
 | false =>
  have he:ordI r e f=r:=by simp [ordI,hb]
  rw [hb] at hg
  refine zt.of Tryz.func46 rfl 27 rfl (by decide) (by simp [AV.okB]) ?_
  repeat' (first|refine T.zk fun K hK=>?_|apply T.block|(refine T.reg (by kernel_rfl) fun K' hK'=>?_;simp only [bz];(with_reducible repeat' (first|(apply WL.fin;apply hK';clear hK' K')|(refine WL.step fun K2 hK2=>?_;simp only [simprocAttr,implies_true,amz,zf,tys];repeat' (first|(apply hK2;clear hK2 K2)|apply And.intro|intro hb)))))|apply T.skip|apply T.exit|refine T.zh rfl ?_|refine T.zg rfl ?_|refine T.cond rfl (fun hc=>?_) (fun hc=>?_)|apply T.ret|simp only [ze,z8,reduceIte,Nat.reduceEqDiff]|((repeat ((fail_if_success apply hK);clear hK K));apply hK;clear hK K))
  refine T.drw 13 (by kernel_rfl) (by kernel_rfl) fun K' hK'=>?_;simp only [yl];(repeat' (first|(with_reducible refine WL.fin ?_;apply hK';clear hK' K')|(with_reducible refine WD.fin ?_)|((with_reducible first|refine WL.step fun K2 hK2=>?_|refine WD.step fun K2 hK2=>?_);simp only [simprocAttr,implies_true,amz,zf,tys,hlm,hi0,hj0,mi,mj];(repeat' (first|with_reducible (first|(apply hK2;clear hK2 K2)|apply And.intro|intro hb)|((with_reducible first|apply zl|apply zn);case h=>exact CallV.plain (Ent.of Tryz.func64 (by kernel_rfl) rfl) (hg) (by simp [AV.okB])))))));all_goals ((try simp only [ze,z8,reduceIte,Nat.reduceEqDiff]);(try ((repeat ((fail_if_success apply hK);clear hK K));apply hK;clear hK K)))
  all_goals repeat' (first|refine T.zk fun K hK=>?_|apply T.block|(refine T.reg (by kernel_rfl) fun K' hK'=>?_;simp only [bz];(with_reducible repeat' (first|(apply WL.fin;apply hK';clear hK' K')|(refine WL.step fun K2 hK2=>?_;simp only [simprocAttr,implies_true,amz,zf,tys];repeat' (first|(apply hK2;clear hK2 K2)|apply And.intro|intro hb)))))|apply T.skip|apply T.exit|refine T.zh rfl ?_|refine T.zg rfl ?_|refine T.cond rfl (fun hc=>?_) (fun hc=>?_)|apply T.ret|simp only [ze,z8,reduceIte,Nat.reduceEqDiff]|((repeat ((fail_if_success apply hK);clear hK K));apply hK;clear hK K))
  refine T.drw 6 (by kernel_rfl) (by kernel_rfl) fun K' hK'=>?_;simp only [yl];(repeat' (first|(with_reducible refine WL.fin ?_;apply hK';clear hK' K')|(with_reducible refine WD.fin ?_)|((with_reducible first|refine WL.step fun K2 hK2=>?_|refine WD.step fun K2 hK2=>?_);simp only [simprocAttr,implies_true,amz,zf,tys];(repeat' with_reducible (first|(apply hK2;clear hK2 K2)|apply And.intro|intro hb)))));all_goals ((try simp only [ze,z8,reduceIte,Nat.reduceEqDiff]);(try ((repeat ((fail_if_success apply hK);clear hK K));apply hK;clear hK K)))
  all_goals (repeat' (first|refine T.zk fun K hK=>?_|apply T.block|(refine T.reg (by kernel_rfl) fun K' hK'=>?_;simp only [bz];(with_reducible repeat' (first|(apply WL.fin;apply hK';clear hK' K')|(refine WL.step fun K2 hK2=>?_;simp only [simprocAttr,implies_true,amz,zf,tys];repeat' (first|(apply hK2;clear hK2 K2)|apply And.intro|intro hb)))))|apply T.skip|apply T.exit|refine T.zh rfl ?_|refine T.zg rfl ?_|refine T.cond rfl (fun hc=>?_) (fun hc=>?_)|apply T.ret|simp only [ze,z8,reduceIte,Nat.reduceEqDiff]|((repeat ((fail_if_success apply hK);clear hK K));apply hK;clear hK K)))
  all_goals (refine zP.ret (.inr rfl) Tryz.results46 ?_;simp only [zI,zu,zw,simprocAttr,implies_true,amz,zf,tys,he])
 | true =>
  have he:ordI r e f=(r.2,r.1):=by simp [ordI,hb]
  rw [hb] at hg
  refine zt.of Tryz.func46 rfl 27 rfl (by decide) (by simp [AV.okB]) ?_
  repeat' (first|refine T.zk fun K hK=>?_|apply T.block|(refine T.reg (by kernel_rfl) fun K' hK'=>?_;simp only [bz];(with_reducible repeat' (first|(apply WL.fin;apply hK';clear hK' K')|(refine WL.step fun K2 hK2=>?_;simp only [simprocAttr,implies_true,amz,zf,tys];repeat' (first|(apply hK2;clear hK2 K2)|apply And.intro|intro hb)))))|apply T.skip|apply T.exit|refine T.zh rfl ?_|refine T.zg rfl ?_|refine T.cond rfl (fun hc=>?_) (fun hc=>?_)|apply T.ret|simp only [ze,z8,reduceIte,Nat.reduceEqDiff]|((repeat ((fail_if_success apply hK);clear hK K));apply hK;clear hK K))
  refine T.drw 13 (by kernel_rfl) (by kernel_rfl) fun K' hK'=>?_;simp only [yl];(repeat' (first|(with_reducible refine WL.fin ?_;apply hK';clear hK' K')|(with_reducible refine WD.fin ?_)|((with_reducible first|refine WL.step fun K2 hK2=>?_|refine WD.step fun K2 hK2=>?_);simp only [simprocAttr,implies_true,amz,zf,tys,hlm,hi0,hj0,mi,mj];(repeat' (first|with_reducible (first|(apply hK2;clear hK2 K2)|apply And.intro|intro hb)|((with_reducible first|apply zl|apply zn);case h=>exact CallV.plain (Ent.of Tryz.func64 (by kernel_rfl) rfl) (hg) (by simp [AV.okB])))))));all_goals ((try simp only [ze,z8,reduceIte,Nat.reduceEqDiff]);(try ((repeat ((fail_if_success apply hK);clear hK K));apply hK;clear hK K)))
  all_goals repeat' (first|refine T.zk fun K hK=>?_|apply T.block|(refine T.reg (by kernel_rfl) fun K' hK'=>?_;simp only [bz];(with_reducible repeat' (first|(apply WL.fin;apply hK';clear hK' K')|(refine WL.step fun K2 hK2=>?_;simp only [simprocAttr,implies_true,amz,zf,tys];repeat' (first|(apply hK2;clear hK2 K2)|apply And.intro|intro hb)))))|apply T.skip|apply T.exit|refine T.zh rfl ?_|refine T.zg rfl ?_|refine T.cond rfl (fun hc=>?_) (fun hc=>?_)|apply T.ret|simp only [ze,z8,reduceIte,Nat.reduceEqDiff]|((repeat ((fail_if_success apply hK);clear hK K));apply hK;clear hK K))
  refine T.drw 6 (by kernel_rfl) (by kernel_rfl) fun K' hK'=>?_;simp only [yl];(repeat' (first|(with_reducible refine WL.fin ?_;apply hK';clear hK' K')|(with_reducible refine WD.fin ?_)|((with_reducible first|refine WL.step fun K2 hK2=>?_|refine WD.step fun K2 hK2=>?_);simp only [simprocAttr,implies_true,amz,zf,tys];(repeat' with_reducible (first|(apply hK2;clear hK2 K2)|apply And.intro|intro hb)))));all_goals ((try simp only [ze,z8,reduceIte,Nat.reduceEqDiff]);(try ((repeat ((fail_if_success apply hK);clear hK K));apply hK;clear hK K)))
  all_goals (repeat' (first|refine T.zk fun K hK=>?_|apply T.block|(refine T.reg (by kernel_rfl) fun K' hK'=>?_;simp only [bz];(with_reducible repeat' (first|(apply WL.fin;apply hK';clear hK' K')|(refine WL.step fun K2 hK2=>?_;simp only [simprocAttr,implies_true,amz,zf,tys];repeat' (first|(apply hK2;clear hK2 K2)|apply And.intro|intro hb)))))|apply T.skip|apply T.exit|refine T.zh rfl ?_|refine T.zg rfl ?_|refine T.cond rfl (fun hc=>?_) (fun hc=>?_)|apply T.ret|simp only [ze,z8,reduceIte,Nat.reduceEqDiff]|((repeat ((fail_if_success apply hK);clear hK K));apply hK;clear hK K)))
  all_goals (refine zP.ret (.inr rfl) Tryz.results46 ?_;simp only [zI,zu,zw,simprocAttr,implies_true,amz,zf,tys,he])
def stOf (l:List Ev) (ss:List P2) (ps:List Int) (r:P2) (i j:Int) (e f:Ev) (b:Nat→Bool):ASt:=⟨[(15,bif b 0 then .ptr 0 0 else .zy),(16,bif b 1 then (.p (.seq 9 (l.map evC))) else .zy),(17,bif b 2 then .int i else .zy),(18,bif b 3 then .elt (evC e) 0 else .zy),(19,bif b 4 then evA e else .zy),(20,bif b 5 then .ptr 0 0 else .zy),(21,bif b 6 then (.p (.seq 9 (l.map evC))) else .zy),(22,bif b 7 then .int j else .zy),(23,bif b 8 then .elt (evC f) 0 else .zy),(24,bif b 9 then evA f else .zy),(7,bif b 10 then .ptr 3 0 else .zy),(8,bif b 11 then .ptr 4 0 else .zy),(2,.ptr 0 0),(3,.ptr 1 0),(4,.ptr 2 0),(5,.int i),(6,.int j)],(bif b 10 then [(3,AO.boxP none 33 (bif b 12 then ((evC e).map .p) else [.int 0,.int 0,.int 0,.int 0,.int 0,.int 0,.int 0,.int 0,.int 0]))] else [])++((bif b 11 then [(4,AO.boxP none 33 (bif b 13 then ((evC f).map .p) else [.int 0,.int 0,.int 0,.int 0,.int 0,.int 0,.int 0,.int 0,.int 0]))] else []) ++ [(2,AO.boxP none 85 [.int 0,.int 0,.int 0,.int 0,.int 0,.int 0]),(1,AO.boxP none 45 [.int r.1,.int r.2]),(0,AO.boxP none 31 [.p (.seq 9 (l.map evC)),.p (.seq 2 (rowP ss)),.p (.seq 1 (rowZ ps))])]),38,5⟩
def keyL (e f:Ev):List Int := [e.fn,e.pc,e.kind,f.fn,f.pc,f.kind]
def keyA (k:List Int):AV := .agg (k.map AV.int)
def loE (e f:Ev):Ev:=if qU e f=true then f else e
def hiE (e f:Ev):Ev:=if qU e f=true then e else f
theorem ordI_at {l:List Ev} {r:P2} {e f:Ev} (h:Rac l r e f) : 0≤(ordI r e f).1 ∧ 0≤(ordI r e f).2∧l[(ordI r e f).1.toNat]? = some (loE e f)∧l[(ordI r e f).2.toNat]? = some (hiE e f):=by
 have:=h.i0;have:=h.ij
 unfold ordI loE hiE
 split
 ·exact ⟨by simp only [];omega,by simp only [];omega,h.f,h.e⟩
 ·exact ⟨by omega,by omega,h.e,h.f⟩
theorem ofR_go (l:List Ev) (ss:List P2) (ps:List Int) (r:P2) (i j:Int) (e f:Ev) (o1 : 0≤i) (o2 : 0≤j) (o3:l[i.toNat]? = some e) (o4:l[j.toNat]? = some f) (ho:zt Tryz.prog 46 [trA l ss ps,p2A r] (.tup [.int i,.int j])) :
  zt Tryz.prog 24 [trA l ss ps,p2A r] (keyA (keyL e f)):=by
 have hlm:(l.map evC).length=l.length:=by simp
 have hi0:(0≤i)=True:=eq_true o1
 have hj0:(0≤j)=True:=eq_true o2
 have mi:=z0W o3
 have mj:=z0W o4
 simp only [trA,p2A,keyA,keyL,yl] at ho ⊢
 refine zt.of Tryz.func24 rfl 38 rfl (by decide) (by simp [AV.okB]) ?_
 repeat' (first|refine T.zk fun K hK=>?_|apply T.block|(refine T.reg (by kernel_rfl) fun K' hK'=>?_;simp only [bz];(repeat' (first|(with_reducible refine WL.fin ?_;apply hK';clear hK' K')|((with_reducible refine WL.step fun K2 hK2=>?_);simp only [simprocAttr,implies_true,amz,zf,tys];(repeat' (first|with_reducible (first|(apply hK2;clear hK2 K2)|apply And.intro|intro hb)|((with_reducible first|apply zl|apply zn);case h=>exact CallV.plain (Ent.of Tryz.func46 (by kernel_rfl) rfl) (ho) (by simp [AV.okB]))))))))|apply T.skip|apply T.exit|refine T.zh rfl ?_|refine T.zg rfl ?_|refine T.cond rfl (fun hc=>?_) (fun hc=>?_)|apply T.ret|simp only [ze,z8,reduceIte,Nat.reduceEqDiff]|((repeat ((fail_if_success apply hK);clear hK K));apply hK;clear hK K))
 refine T.inv (stOf l ss ps r i j e f) (by kernel_rfl) (by kernel_rfl) ?_ (fun b hcl=>?_) fun K' hK'=>?_
 ·simp only [stOf,cond_false,List.nil_append];refine zi.of' rfl ?_;simp only [wks,reduceIte,Nat.reduceEqDiff,ASt.okB,AV.okB,AO.zL,AV.zT,List.all_cons,List.all_nil,Nat.reduceLT,implies_true,List.nil_append,List.cons_append,cond_true,cond_false,and_self,zS,zU,Bool.cond_self,Bool.and_self,AV.zG,AV.zW,AV.zF,AV.zA,AV.zD,yl,evA,evC,yl,hlm,hi0,hj0,mi,mj]
 ·simp only [allL,Nat.reduceAdd]
  refine ⟨fun hb hd=>?_,fun hb hd=>?_,fun hb hd=>?_,fun hb hd=>?_,fun hb hd=>?_,fun hb hd=>?_,fun hb hd=>?_,fun hb hd=>?_,fun hb hd=>?_,fun hb hd=>?_,fun hb hd=>?_,fun hb hd=>?_,fun hb hd=>?_,fun hb hd=>?_,trivial⟩
  ·refine ⟨by trivial,by simp [zC,stOf],?_⟩
   simp only [simprocAttr,implies_true,amz,zf,tys,lkc,zV,Nat.reduceBEq,yb,stOf,evA,evC,yl,hlm,hi0,hj0,mi,mj]
   all_goals (refine zi.slots ?_;simp only [wks,reduceIte,Nat.reduceEqDiff,implies_true,cond_true,and_self])
  ·have d0:=zm hd (j := 0) (by decide) (by kernel_rfl);refine ⟨by trivial,by simp [zC,stOf],?_⟩
   simp only [simprocAttr,implies_true,amz,zf,tys,lkc,zV,Nat.reduceBEq,yb,stOf,evA,evC,yl,hlm,hi0,hj0,mi,mj,d0]
   all_goals (refine zi.slots ?_;simp only [wks,reduceIte,Nat.reduceEqDiff,implies_true,cond_true,and_self,d0])
  ·refine ⟨by trivial,by simp [zC,stOf],?_⟩
   simp only [simprocAttr,implies_true,amz,zf,tys,lkc,zV,Nat.reduceBEq,yb,stOf,evA,evC,yl,hlm,hi0,hj0,mi,mj]
   all_goals (refine zi.slots ?_;simp only [wks,reduceIte,Nat.reduceEqDiff,implies_true,cond_true,and_self])
  ·have d1:=zm hd (j := 1) (by decide) (by kernel_rfl);have d2:=zm hd (j := 2) (by decide) (by kernel_rfl);refine ⟨by trivial,by simp [zC,stOf],?_⟩
   simp only [simprocAttr,implies_true,amz,zf,tys,lkc,zV,Nat.reduceBEq,yb,stOf,evA,evC,yl,hlm,hi0,hj0,mi,mj,d1,d2]
   all_goals (refine zi.slots ?_;simp only [wks,reduceIte,Nat.reduceEqDiff,implies_true,cond_true,and_self,d1,d2])
  ·have d3:=zm hd (j := 3) (by decide) (by kernel_rfl);refine ⟨by trivial,by simp [zC,stOf],?_⟩
   simp only [simprocAttr,implies_true,amz,zf,tys,lkc,zV,Nat.reduceBEq,yb,stOf,evA,evC,yl,hlm,hi0,hj0,mi,mj,d3]
   all_goals (refine zi.slots ?_;simp only [wks,reduceIte,Nat.reduceEqDiff,implies_true,cond_true,and_self,d3])
  ·refine ⟨by trivial,by simp [zC,stOf],?_⟩
   simp only [simprocAttr,implies_true,amz,zf,tys,lkc,zV,Nat.reduceBEq,yb,stOf,evA,evC,yl,hlm,hi0,hj0,mi,mj]
   all_goals (refine zi.slots ?_;simp only [wks,reduceIte,Nat.reduceEqDiff,implies_true,cond_true,and_self])
  ·have d5:=zm hd (j := 5) (by decide) (by kernel_rfl);refine ⟨by trivial,by simp [zC,stOf],?_⟩
   simp only [simprocAttr,implies_true,amz,zf,tys,lkc,zV,Nat.reduceBEq,yb,stOf,evA,evC,yl,hlm,hi0,hj0,mi,mj,d5]
   all_goals (refine zi.slots ?_;simp only [wks,reduceIte,Nat.reduceEqDiff,implies_true,cond_true,and_self,d5])
  ·refine ⟨by trivial,by simp [zC,stOf],?_⟩
   simp only [simprocAttr,implies_true,amz,zf,tys,lkc,zV,Nat.reduceBEq,yb,stOf,evA,evC,yl,hlm,hi0,hj0,mi,mj]
   all_goals (refine zi.slots ?_;simp only [wks,reduceIte,Nat.reduceEqDiff,implies_true,cond_true,and_self])
  ·have d6:=zm hd (j := 6) (by decide) (by kernel_rfl);have d7:=zm hd (j := 7) (by decide) (by kernel_rfl);refine ⟨by trivial,by simp [zC,stOf],?_⟩
   simp only [simprocAttr,implies_true,amz,zf,tys,lkc,zV,Nat.reduceBEq,yb,stOf,evA,evC,yl,hlm,hi0,hj0,mi,mj,d6,d7]
   all_goals (refine zi.slots ?_;simp only [wks,reduceIte,Nat.reduceEqDiff,implies_true,cond_true,and_self,d6,d7])
  ·have d8:=zm hd (j := 8) (by decide) (by kernel_rfl);refine ⟨by trivial,by simp [zC,stOf],?_⟩
   simp only [simprocAttr,implies_true,amz,zf,tys,lkc,zV,Nat.reduceBEq,yb,stOf,evA,evC,yl,hlm,hi0,hj0,mi,mj,d8]
   all_goals (refine zi.slots ?_;simp only [wks,reduceIte,Nat.reduceEqDiff,implies_true,cond_true,and_self,d8])
  ·have h3:b 12=false:=by
    cases h:b 12 with
    | false=>rfl
    | true =>
     have h4:=zm (hcl 12 (by decide) h) (j := 10) (by decide) (by kernel_rfl)
     rw [hb] at h4;cases h4
   refine ⟨by trivial,by simp [zC,stOf],?_⟩
   cases h1:b 11 <;> cases h2:b 13 <;> (simp only [simprocAttr,implies_true,amz,zf,tys,lkc,zV,Nat.reduceBEq,yb,stOf,evA,evC,yl,hlm,hi0,hj0,mi,mj,hb,h1,h2,h3];refine (zi.ren _ 5 3).trans ?_;simp only [ASt.ren,AV.zZ,AV.zG,AV.qd,AV.qw,AV.zW,AV.zF,AV.zA,AV.qc,AV.qO,AV.zD,AV.qx,AO.qD,AO.qG,AO.qE,AO.qF,yl,List.filter_cons,List.filter_nil,zq,qp,reduceIte,Nat.reduceEqDiff,Nat.reduceLT,Nat.reduceBneDiff,bne_self_eq_false,Bool.and_true,Bool.and_false,Bool.true_and,Bool.false_and,Bool.and_self,Bool.false_eq_true,ne_eq,not_false_eq_true,not_true_eq_false,and_self,and_true,true_and,and_false];refine zi.of' rfl ?_;simp only [wks,reduceIte,Nat.reduceEqDiff,ASt.okB,AV.okB,AO.zL,AV.zT,List.all_cons,List.all_nil,Nat.reduceLT,implies_true,List.nil_append,List.cons_append,cond_true,cond_false,and_self,zS,zU,Bool.cond_self,Bool.and_self,AV.zG,AV.zW,AV.zF,AV.zA,AV.zD,yl,evA,evC,yl,hlm,hi0,hj0,mi,mj])
  ·have h3:b 13=false:=by
    cases h:b 13 with
    | false=>rfl
    | true =>
     have h4:=zm (hcl 13 (by decide) h) (j := 11) (by decide) (by kernel_rfl)
     rw [hb] at h4;cases h4
   refine ⟨by trivial,by simp [zC,stOf],?_⟩
   cases h1:b 10 <;> cases h2:b 12 <;> (simp only [simprocAttr,implies_true,amz,zf,tys,lkc,zV,Nat.reduceBEq,yb,stOf,evA,evC,yl,hlm,hi0,hj0,mi,mj,hb,h1,h2,h3];refine (zi.ren _ 5 4).trans ?_;simp only [ASt.ren,AV.zZ,AV.zG,AV.qd,AV.qw,AV.zW,AV.zF,AV.zA,AV.qc,AV.qO,AV.zD,AV.qx,AO.qD,AO.qG,AO.qE,AO.qF,yl,List.filter_cons,List.filter_nil,zq,qp,reduceIte,Nat.reduceEqDiff,Nat.reduceLT,Nat.reduceBneDiff,bne_self_eq_false,Bool.and_true,Bool.and_false,Bool.true_and,Bool.false_and,Bool.and_self,Bool.false_eq_true,ne_eq,not_false_eq_true,not_true_eq_false,and_self,and_true,true_and,and_false];refine zi.of' rfl ?_;simp only [wks,reduceIte,Nat.reduceEqDiff,ASt.okB,AV.okB,AO.zL,AV.zT,List.all_cons,List.all_nil,Nat.reduceLT,implies_true,List.nil_append,List.cons_append,cond_true,cond_false,and_self,zS,zU,Bool.cond_self,Bool.and_self,AV.zG,AV.zW,AV.zF,AV.zA,AV.zD,yl,evA,evC,yl,hlm,hi0,hj0,mi,mj])
  ·have d10:=zm hd (j := 10) (by decide) (by kernel_rfl);have d4:=zm hd (j := 4) (by decide) (by kernel_rfl)
   refine ⟨by trivial,by simp [zC,stOf],?_⟩
   cases h1:b 11 <;> cases h2:b 13 <;> (simp only [simprocAttr,implies_true,amz,zf,tys,lkc,zV,Nat.reduceBEq,yb,stOf,evA,evC,yl,hlm,hi0,hj0,mi,mj,hb,h1,h2,d10,d4];refine zi.of' rfl ?_;simp only [wks,reduceIte,Nat.reduceEqDiff,ASt.okB,AV.okB,AO.zL,AV.zT,List.all_cons,List.all_nil,Nat.reduceLT,implies_true,List.nil_append,List.cons_append,cond_true,cond_false,and_self,zS,zU,Bool.cond_self,Bool.and_self,AV.zG,AV.zW,AV.zF,AV.zA,AV.zD,yl,evA,evC,yl,hlm,hi0,hj0,mi,mj])
  ·have d11:=zm hd (j := 11) (by decide) (by kernel_rfl);have d9:=zm hd (j := 9) (by decide) (by kernel_rfl)
   refine ⟨by trivial,by simp [zC,stOf],?_⟩
   cases h1:b 10 <;> cases h2:b 12 <;> (simp only [simprocAttr,implies_true,amz,zf,tys,lkc,zV,Nat.reduceBEq,yb,stOf,evA,evC,yl,hlm,hi0,hj0,mi,mj,hb,h1,h2,d11,d9];refine zi.of' rfl ?_;simp only [wks,reduceIte,Nat.reduceEqDiff,ASt.okB,AV.okB,AO.zL,AV.zT,List.all_cons,List.all_nil,Nat.reduceLT,implies_true,List.nil_append,List.cons_append,cond_true,cond_false,and_self,zS,zU,Bool.cond_self,Bool.and_self,AV.zG,AV.zW,AV.zF,AV.zA,AV.zD,yl,evA,evC,yl,hlm,hi0,hj0,mi,mj])
 apply hK';clear hK' K';simp only [stOf,List.length_cons,List.length_nil,Nat.reduceAdd,Nat.reduceLT,decide_true,cond_true,List.cons_append,List.nil_append];(try simp only [ze,z8,reduceIte,Nat.reduceEqDiff]);(try ((repeat ((fail_if_success apply hK);clear hK K));apply hK;clear hK K))
 all_goals repeat' (first|refine T.zk fun K hK=>?_|apply T.block|(refine T.reg (by kernel_rfl) fun K' hK'=>?_;simp only [bz];(with_reducible repeat' (first|(apply WL.fin;apply hK';clear hK' K')|(refine WL.step fun K2 hK2=>?_;simp only [simprocAttr,implies_true,amz,zf,tys,evC,yl];repeat' (first|(apply hK2;clear hK2 K2)|apply And.intro|intro hb)))))|apply T.skip|apply T.exit|refine T.zh rfl ?_|refine T.zg rfl ?_|refine T.cond rfl (fun hc=>?_) (fun hc=>?_)|apply T.ret|simp only [ze,z8,reduceIte,Nat.reduceEqDiff]|((repeat ((fail_if_success apply hK);clear hK K));apply hK;clear hK K))
 all_goals (refine zP.ret (.inr rfl) Tryz.results24 ?_;simp only [zI,zu,zw,simprocAttr,implies_true,amz,zf,tys,])
theorem ofR_ok (l:List Ev) (ss:List P2) (ps:List Int) (r:P2) (e f:Ev) (h:Rac l r e f):zt Tryz.prog 24 [trA l ss ps,p2A r] (keyA (keyL (loE e f) (hiE e f))) :=
 let ⟨o1,o2,o3,o4⟩:=ordI_at h
 ofR_go l ss ps r _ _ _ _ o1 o2 o3 o4 (z5h l ss ps r e f h)
def z3f (a b:P2):Bool:=decide (a.2<b.2)||(a.2==b.2&&decide (a.1<b.1))
theorem z8B (a b:P2):zt Tryz.prog 26 [p2A a,p2A b] (.bool (z3f a b)):=by
 simp only [p2A]
 refine zt.of Tryz.func26 rfl 24 rfl (by decide) (by simp [AV.okB]) ?_
 repeat' (first|refine T.zk fun K hK=>?_|apply T.block|(refine T.reg (by kernel_rfl) fun K' hK'=>?_;simp only [bz];(with_reducible repeat' (first|(apply WL.fin;apply hK';clear hK' K')|(refine WL.step fun K2 hK2=>?_;simp only [simprocAttr,implies_true,amz,zf,tys];repeat' (first|(apply hK2;clear hK2 K2)|apply And.intro|intro hb)))))|apply T.skip|apply T.exit|refine T.zh rfl ?_|refine T.zg rfl ?_|refine T.cond rfl (fun hc=>?_) (fun hc=>?_)|apply T.ret|simp only [ze,z8,reduceIte,Nat.reduceEqDiff]|((repeat ((fail_if_success apply hK);clear hK K));apply hK;clear hK K))
 all_goals (refine zP.ret (.inr rfl) Tryz.results26 ?_;simp only [zI,zu,zw,simprocAttr,implies_true,amz,zf,tys,];first|(simp [z3f, *];done)|(simp_all [z3f];done)|(simp_all [z3f];omega))
def z0w (k:Int):Bool:=k==1||k==2
theorem memory_ok (k:Int):zt Tryz.prog 58 [.int k] (.bool (z0w k)):=by
 refine zt.of Tryz.func58 rfl 9 rfl (by decide) (by simp [AV.okB]) ?_
 repeat' (first|refine T.zk fun K hK=>?_|apply T.block|(refine T.reg (by kernel_rfl) fun K' hK'=>?_;simp only [bz];(with_reducible repeat' (first|(apply WL.fin;apply hK';clear hK' K')|(refine WL.step fun K2 hK2=>?_;simp only [simprocAttr,implies_true,amz,zf,tys];repeat' (first|(apply hK2;clear hK2 K2)|apply And.intro|intro hb)))))|apply T.skip|apply T.exit|refine T.zh rfl ?_|refine T.zg rfl ?_|refine T.cond rfl (fun hc=>?_) (fun hc=>?_)|apply T.ret|simp only [ze,z8,reduceIte,Nat.reduceEqDiff]|((repeat ((fail_if_success apply hK);clear hK K));apply hK;clear hK K))
 all_goals (refine zP.ret (.inr rfl) Tryz.results58 ?_;simp only [zI,zu,zw,simprocAttr,implies_true,amz,zf,tys,];first|(simp [z0w, *];done)|(simp_all [z0w];done)|(simp_all [z0w];omega))
theorem z8L (k:Int):zt Tryz.prog 37 [.int k] (.bool (z0w k)):=by
 refine zt.of Tryz.func37 rfl 9 rfl (by decide) (by simp [AV.okB]) ?_
 repeat' (first|refine T.zk fun K hK=>?_|apply T.block|(refine T.reg (by kernel_rfl) fun K' hK'=>?_;simp only [bz];(with_reducible repeat' (first|(apply WL.fin;apply hK';clear hK' K')|(refine WL.step fun K2 hK2=>?_;simp only [simprocAttr,implies_true,amz,zf,tys];repeat' (first|(apply hK2;clear hK2 K2)|apply And.intro|intro hb)))))|apply T.skip|apply T.exit|refine T.zh rfl ?_|refine T.zg rfl ?_|refine T.cond rfl (fun hc=>?_) (fun hc=>?_)|apply T.ret|simp only [ze,z8,reduceIte,Nat.reduceEqDiff]|((repeat ((fail_if_success apply hK);clear hK K));apply hK;clear hK K))
 all_goals (refine zP.ret (.inr rfl) Tryz.results37 ?_;simp only [zI,zu,zw,simprocAttr,implies_true,amz,zf,tys,];first|(simp [z0w, *];done)|(simp_all [z0w];done)|(simp_all [z0w];omega))
def z0f (a b:Ev):Bool:=z0w a.kind&&z0w b.kind&&a.g != b.g&&a.obj==b.obj&&a.off==b.off&&(a.kind==2||b.kind==2)
def z1W (a b:Ev):Bool:=z0w a.kind&&z0w b.kind&&a.g != b.g&&a.obj==b.obj&&a.off==b.off&&(if a.kind<b.kind then b.kind else a.kind)==2
theorem z6Z (a b:Ev):z1W a b=z0f a b:=by
 unfold z1W z0f z0w
 rw [Bool.eq_iff_iff]
 simp only [Bool.and_eq_true,Bool.or_eq_true,beq_iff_eq,bne_iff_ne]
 split <;> omega
theorem z7a (a b:Ev):zt Tryz.prog 40 [evA a,evA b] (.bool (z0f a b)):=by
 rw [← z6Z]
 simp only [evA,evC,yl]
 refine zt.of Tryz.func40 rfl 42 rfl (by decide) (by simp [AV.okB]) ?_
 repeat' (first|refine T.zk fun K hK=>?_|apply T.block|(refine T.reg (by kernel_rfl) fun K' hK'=>?_;simp only [bz];(repeat' (first|(with_reducible refine WL.fin ?_;apply hK';clear hK' K')|((with_reducible refine WL.step fun K2 hK2=>?_);simp only [simprocAttr,implies_true,amz,zf,tys];(repeat' (first|with_reducible (first|(apply hK2;clear hK2 K2)|apply And.intro|intro hb)|((with_reducible first|apply zl|apply zn);case h=>exact CallV.plain (Ent.of Tryz.func58 (by kernel_rfl) rfl) (memory_ok _) (by simp [AV.okB]))))))))|apply T.skip|apply T.exit|refine T.zh rfl ?_|refine T.zg rfl ?_|refine T.cond rfl (fun hc=>?_) (fun hc=>?_)|apply T.ret|simp only [ze,z8,reduceIte,Nat.reduceEqDiff]|((repeat ((fail_if_success apply hK);clear hK K));apply hK;clear hK K))
 all_goals (refine zP.ret (.inr rfl) Tryz.results40 ?_;simp only [zI,zu,zw,simprocAttr,implies_true,amz,zf,tys,];first|(simp [z1W, *];done)|(simp_all [z1W];done)|(simp_all [z1W];omega))
theorem z3K (a b:Ev):zt Tryz.prog 12 [evA a,evA b] (.bool (z0f a b)):=by
 simp only [evA,evC,yl]
 refine zt.of Tryz.func12 rfl 44 rfl (by decide) (by simp [AV.okB]) ?_
 repeat' (first|refine T.zk fun K hK=>?_|apply T.block|(refine T.reg (by kernel_rfl) fun K' hK'=>?_;simp only [bz];(repeat' (first|(with_reducible refine WL.fin ?_;apply hK';clear hK' K')|((with_reducible refine WL.step fun K2 hK2=>?_);simp only [simprocAttr,implies_true,amz,zf,tys];(repeat' (first|with_reducible (first|(apply hK2;clear hK2 K2)|apply And.intro|intro hb)|((with_reducible first|apply zl|apply zn);case h=>exact CallV.plain (Ent.of Tryz.func37 (by kernel_rfl) rfl) (z8L _) (by simp [AV.okB]))))))))|apply T.skip|apply T.exit|refine T.zh rfl ?_|refine T.zg rfl ?_|refine T.cond rfl (fun hc=>?_) (fun hc=>?_)|apply T.ret|simp only [ze,z8,reduceIte,Nat.reduceEqDiff]|((repeat ((fail_if_success apply hK);clear hK K));apply hK;clear hK K))
 all_goals (refine zP.ret (.inr rfl) Tryz.results12 ?_;simp only [zI,zu,zw,simprocAttr,implies_true,amz,zf,tys,];first|(simp [z0f, *];done)|(simp_all [z0f];done)|(simp_all [z0f];omega))
end Go.Proofs.YtbkkginjfnjffaaGreatDoor
